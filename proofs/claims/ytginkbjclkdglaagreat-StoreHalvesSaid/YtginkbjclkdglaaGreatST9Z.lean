/- store.lay by rules. -/
import Derived.Test.YtginkbjclkdglaaGreatST7Z
import Derived.Test.YtginkbjclkdglaaGreatMM2Z
import Derived.Test.YtginkbjclkdglaaGreatB2Z
set_option maxHeartbeats 16000000
set_option maxRecDepth 100000
namespace Go.Proofs.YtginkbjclkdglaaGreat
open Go Go.RowKit
structure L7(blk:Int)(g:List aC):Prop where
 up:Up g
 pos:0<g.length
 few:g.length≤300
 ok:∀x∈g,Kp x
 mke:(mt g blk).2=0
def mX(base lev blk:Int)(i:Nat)(g:List aC):Fl×List aC:=(⟨base+i,lev,((mt g blk).1.length:Nat),qo g,np g⟩,g)
def ff(base lev blk:Int):List (List aC)→Nat→List (Fl×List aC)
 |[],_=>[]
 |g::r,i=>mX base lev blk i g::ff base lev blk r (i+1)
theorem iP(base lev blk:Int):∀(gs:List (List aC)) (i:Nat),(ff base lev blk gs i).length=gs.length
 |[],_=>rfl
 |g::r,i=>by unfold ff;rw[List.length_cons,List.length_cons,iP base lev blk r]
theorem rN(base lev blk:Int):∀(gs:List (List aC)) (i k:Nat) (h:k<gs.length) (h2:k<(ff base lev blk gs i).length),(ff base lev blk gs i)[k]=mX base lev blk (i+k) gs[k]
 |g::r,i,0,_,_=>rfl
 |g::r,i,k+1,h,h2=>by
  show (ff base lev blk r (i+1))[k]'(by rw[iP];exact Nat.lt_of_succ_lt_succ h)=_
  rw[rN base lev blk r (i+1) k (Nat.lt_of_succ_lt_succ h),show i+1+k=i+(k+1) by omega]
  rfl
theorem rM(base lev blk:Int):∀(gs:List (List aC)) (i:Nat) (p:Fl×List aC),p∈ff base lev blk gs i→base+i≤p.1.num∧p.1.num<base+i+gs.length
 |g::r,i,p,h=>by
  rw[List.length_cons]
  rcases List.mem_cons.1 h with rfl|h
  ·show base+i≤base+i∧base+i<_;omega
  ·have:=rM base lev blk r (i+1) p h;omega
theorem L7.tok{blk:Int}{g:List aC}(h:L7 blk g){base lev:Int}{i:Nat}(h0:0≤base)(h1:base+i<1073741824):GO blk (mX base lev blk i g):=
 ⟨h.up,h.few,h.ok,h.mke,rfl,rfl,⟨by show 0≤base+i;omega,h1⟩⟩
structure Kg(S S':ei):Prop where
 now:S'.now=S.now
 mem:S'.mem=S.mem
 msz:S'.msz=S.msz
 st:S'.st=S.st
theorem Kg.trans{S S1 S2:ei}(h:Kg S S1)(k:Kg S1 S2):Kg S S2:=⟨k.now.trans h.now,k.mem.trans h.mem,k.msz.trans h.msz,k.st.trans h.st⟩
theorem G9{r blk:Int}{A:List (List UInt8×List UInt8)}{m:Option (List UInt8)}{fx P:List (Fl×List aC)}{k:Nat}(h:k<P.length)(t:kQ r (Ac blk P[k]::(A++dR blk m (fx++P.take k)))):kQ r (A++dR blk m (fx++P)):=by
 have e1:fx++P=(fx++P.take k)++(P[k]::P.drop (k+1)):=by rw[←List.drop_eq_getElem_cons h,List.append_assoc,List.take_append_drop]
 have e:A++dR blk m (fx++P)=(A++dR blk m (fx++P.take k))++(Ac blk P[k]::(P.drop (k+1)).map (Ac blk)):=by
  rw[e1];unfold dR
  simp only[List.map_append,List.map_cons,List.append_assoc]
 rw[e]
 refine t.of ?_ ?_
 ·simp only[eH,dN];omega
 ·simp only[List.length_append,List.length_cons];omega
theorem xK(B:gV)(o:eW)(S:ei)(jl:List (Nat×List (List aC)))(m:Option (List UInt8))(fx:List (Fl×List aC))(X:dH o S jl m fx)(l:List aC)(lev:Int)(hg:kO o)(hl:l.length≤300)(hm:∀e∈l,e.k.length≤110∧e.v.length≤4010)
 (gs:List (List aC))(hgs:wY o.tab l [] 0=gs)(hgk:∀g∈gs,L7 o.blk g)(_hgl:gs.length≤300)(hn0:0≤S.st.next)(hn1:S.st.next+gs.length<1073741824)(hfx:∀p∈fx,p.1.num<S.st.next):
 aQ Tryz.prog 47 [.ptr 104 B.bs [] 0,.sl 3 (l.map eA),.i .i64 lev] (dY B o S) (fun r os=>∃S' k e,((e=(0:Int)∧k=gs.length)∨(e=9∧kQ o.rm (de (iz jl)++dR o.blk m (fx++ff S.st.next lev o.blk gs 0))))∧dH o S' jl m (fx++(ff S.st.next lev o.blk gs 0).take k)∧Kg S S'∧
  r= .tup [.sl 5 (((ff S.st.next lev o.blk gs 0).take k).map (fun p=>eF p.1)),.i .i64 e]∧os=dY B o S'):=by
 have hsp:=CQ l o.tab hg.2.2.2.2.1 hl hm
 rw[hgs] at hsp
 refine aA ab [(100,.var B.bd (cO B.bm S.D)),(101,.obj B.bm (cV S.D.es S.D.clk)),(102,bL (S.D.fs.map bZ.O)),(103,eC B.bd B.bj S.now),(104,.var B.bs (dm B o S.mem S.msz S.st)),(105,io B.bt S.ts S.c)] Tryz.func47 Z Tryz.ntmps47 aN Z Z (fun C=>?_) Z
 unfold dm e8 el iA
 repeat' (first|refine ae ?_|refine aj ?_|refine aa ?_|refine ac (ax ?_)|refine br Z ab Z Z Z (fun _=>?_)|refine aU ab (fun _=>?_)|refine au Z (hsp) ⟨aP,aP,aP,J⟩ Z ?_)
 have hPl:=iP S.st.next lev o.blk gs 0
 have hPa:=fun k h h2=>rN S.st.next lev o.blk gs 0 k h h2
 generalize hP:ff S.st.next lev o.blk gs 0=P at hPl hPa
 refine aO (fun q:Nat×ez×List (Int×AV×Nat)×Nat×Value=>⟨80,[(27,.i .i64 q.1),(26,.i .i64 gs.length),(25,.sl 1 (gs.map rV)),(9,.i .i64 (S.st.next+q.1)),(8,.own 8 q.2.2.2.2),(0,.ptr 104 B.bs [] 0),(2,.i .i64 lev)],[(100,.var B.bd (cO B.bm q.2.1)),(101,.obj B.bm (cV q.2.1.es q.2.1.clk)),(102,bL (q.2.1.fs.map bZ.O)),(103,eC B.bd B.bj S.now),(104,.var B.bs (dm B o S.mem S.msz S.st)),(105,io B.bt q.2.2.1 q.2.2.2.1),(8,.row q.2.2.2.2 76 5 ((P.take q.1).map (fun p=>eF p.1)))]⟩)
  (fun q=>q.1≤gs.length∧dH o ⟨q.2.1,S.now,S.mem,S.msz,S.st,q.2.2.1,q.2.2.2.1⟩ jl m (fx++P.take q.1)) (fun q=>gs.length - q.1) [] (0,S.D,S.ts,S.c,.slice none 0 0) ⟨Nat.zero_le _,by rw[List.take_zero,List.append_nil];exact X⟩ ?_ ?_
 ·exact⟨rfl,⟨ai Z,ai Z,ay Z,ai (by show S.st.next=S.st.next+((0:Nat):Int);omega),dp,af,ai Z,J⟩,az 100 Z (az 101 Z (az 102 Z (az 103 Z (az 104 Z (az 105 Z (cr.none .nil))))))⟩
 rintro⟨k,D,ts,c,v⟩ ⟨hk,Xk⟩
 dsimp only at hk Xk ⊢
 clear X hsp
 by_cases hlt:k<gs.length
 ·have hGo:=hgk gs[k] (List.getElem_mem hlt)
  have hPk:=hPa k hlt (by rw[hPl];exact hlt)
  rw[Nat.zero_add] at hPk
  have htk:P.take (k+1)=P.take k++[mX S.st.next lev o.blk k gs[k]]:=by rw[List.take_succ_eq_append_getElem (by rw[hPl];exact hlt),hPk]
  have hTok:=hGo.tok (base:=S.st.next) (lev:=lev) (i:=k) hn0 (by omega)
  have hnf:(mX S.st.next lev o.blk k gs[k]).1.num∉(fx++P.take k).map (·.1.num):=fun hin=>by
   rw[List.map_append,List.mem_append] at hin
   rcases hin with hin|hin
   ·obtain⟨p,hp,he⟩:=List.mem_map.1 hin
    have h1:=hfx p hp
    have he:p.1.num=S.st.next+k:=he
    omega
   ·obtain⟨p,hp,he⟩:=List.mem_map.1 hin
    obtain⟨i,hi,hpi⟩:=List.mem_iff_getElem.1 hp
    rw[List.length_take] at hi
    rw[List.getElem_take,hPa i (by omega) (by omega),Nat.zero_add] at hpi
    rw[←hpi] at he
    have he:S.st.next+i=S.st.next+k:=he
    omega
  have hmk:=CC gs[k] o.blk hGo.few (fun e he=>by have:=hGo.ok e he;exact⟨by have:=this.1;omega,by have:=this.2.1;omega⟩)
  rw[hGo.mke] at hmk
  have hnm:=jS (S.st.next+k).toNat (by omega)
  rw[Int.toNat_of_nonneg (by omega)] at hnm
  have htl:=(pe (rb gs[k] o.blk hGo.mke) hGo.few (fun e he=>by have:=hGo.ok e he;exact⟨by have:=this.1;omega,by have:=this.2.1;omega⟩)).2.2.2
  have hfl:=vl B o S.mem S.msz S.st (D:=D) Xk.vw (eM (S.st.next+k).toNat) (mt gs[k] o.blk).1 (by unfold fg;rw[m9];rfl) Xk.room.2.1 Xk.room.1 Xk.room.2.2 (by omega)
  have hld:=fun D' (hv:Vw D' (gD (de (iz jl)++dR o.blk m (fx++P.take k)) (eM (S.st.next+k).toNat) (mt gs[k] o.blk).1)) (hu:D'.used≤16777216)=>CT B o ⟨D',S.now,S.mem,S.msz,S.st,ts,c⟩ (mX S.st.next lev o.blk k gs[k]) _ hv hu hTok (by
   have h1:=zk (nm:=eM (S.st.next+k).toNat) (b:=(mt gs[k] o.blk).1) (k:=eM (S.st.next+k).toNat) (L:=de (iz jl)++dR o.blk m (fx++P.take k))
   rw[if_pos Z,ph.2 (Xk.no_tab (by omega) (by rw[Int.toNat_of_nonneg (by omega)];exact hnf))] at h1
   exact h1) (Xk.noT hnf)
  have hgl0:0<gs[k].length:=hGo.pos
  have hgl1:gs[k].length - 1<gs[k].length:=by omega
  have hF:eF (mX S.st.next lev o.blk k gs[k]).1= .agg [.i .i64 (S.st.next+k),.i .i64 lev,.i .i64 ((mt gs[k] o.blk).1.length:Nat),.s (gs[k][0]).k,.s (gs[k][gs[k].length - 1]).k]:=by rw[←qP hgl0,←th hgl1];rfl
  have hnn:(mX S.st.next lev o.blk k gs[k]).1.num=S.st.next+k:=rfl
  have hadd:∀D',Vw D' (gD (de (iz jl)++dR o.blk m (fx++P.take k)) (eM (S.st.next+(k:Int)).toNat) (mt gs[k] o.blk).1)→D'.room=D.room→(D'.used:Int)≤D'.room→D'.fs.length≤4096→
   dH o ⟨D',S.now,S.mem,S.msz,S.st,ts++[(S.st.next+(k:Int),.cp (iY (jm o.blk (mX S.st.next lev o.blk k gs[k]))),c)],c+1⟩ jl m (fx++P.take k++[mX S.st.next lev o.blk k gs[k]]):=fun D' hv hr hu hl=>Xk.add hTok hnf hv hr hu hl Z
  rw[hnn] at hld
  have hsz:(((mt gs[k] o.blk).1.length:Nat):Int)=((mt gs[k] o.blk).1.length:Int):=rfl
  have hTT:∀D',dY B o ⟨D',S.now,S.mem,S.msz,S.st,ts++[(S.st.next+(k:Int),.cp (iY (jm o.blk (mX S.st.next lev o.blk k gs[k]))),c)],c+1⟩=[.var B.bd (cO B.bm D'),.obj B.bm (cV D'.es D'.clk),bL (D'.fs.map bZ.O),eC B.bd B.bj S.now,.var B.bs (dm B o S.mem S.msz S.st),io B.bt (ts++[(S.st.next+(k:Int),.cp (iY (jm o.blk (mX S.st.next lev o.blk k gs[k]))),c)]) (c+1)]:=fun _=>rfl
  simp only[hTT] at hld
  clear hTT
  have hrm:D.room≤16777216:=Xk.room.1
  have htg:kQ D.room ((eM (S.st.next+(k:Int)).toNat,(mt gs[k] o.blk).1)::(de (iz jl)++dR o.blk m (fx++P.take k)))→kQ o.rm (de (iz jl)++dR o.blk m (fx++P)):=fun t=>by
   have hrk:D.room=o.rm:=Xk.rm
   rw[hrk] at t
   exact G9 (k:=k) (by rw[hPl];exact hlt) (by rw[hPk];exact t)
  generalize jm o.blk (mX S.st.next lev o.blk k gs[k])=TB at hld hadd
  generalize (mt gs[k] o.blk).1=tb at hmk htl hfl hld hF hadd htg
  generalize eM (S.st.next+(k:Int)).toNat=nm at hnm hfl hld hadd htg
  repeat' (first|refine ae ?_|refine aj ?_|refine aa ?_|refine ac (ax ?_)|refine ac (db ?_)|refine ah (ax ?_)|refine ap (bC ?_)|(refine bc Z Z Z Z ?_ ?_;omega)|(refine dW Z Z Z Z ?_ ?_;omega)|refine br Z ab Z Z Z (fun _=>?_)|refine aU ab (fun _=>?_)|(refine aK Z ab Z Z Z Z Z Z ?_ (aE ?_) ?_;omega;omega)|refine cd ab Z Z Z Z Z Z eo ?_|refine aI ab Z Z Z Z Z Z Z Z Z Z Z eo (fun _=>?_)|(refine bH ab Z Z Z Z Z Z Z Z Z (by first|exact J|exact rfl) Z Z (fun _=>rfl) ?_ ?_ (fun _=>?_);(exact dt);(exact dt))|refine aR Z ?_|refine aB Z ?_|(refine ao Z (fun hc=>?_) (fun hc=>?_))<;>try omega|refine cg 10 [8,67] [58,65] [67] [0,1,2,3,4,5,6,7,9,10,11,12,13,14,8,15,16,17,18,19] aN aN aN Z Z Z ?_|(refine aK Z ab Z Z Z Z Z Z ?_ (ol (gs[k].length - 1) ?_ hgl1) ?_;omega;omega)|(refine bx [] [100,101,102,103,104,105] [100,101,102,103,104,105] Z (hld D2 hv2 (by omega)) ⟨af,aP,J⟩ Z dD Z Z ?_;rintro _ _ ⟨rfl,rfl⟩;refine⟨_,rfl,rfl,?_⟩)|(refine bx [] [100,101,102,104] [100,101,102,104] Z hfl ⟨af,aP,aP,J⟩ Z dD Z Z ?_;rintro _ _ ⟨D2,e,⟨rfl,rfl,htt⟩|⟨rfl,hv2,hr2,hu2,hl2⟩,rfl,rfl⟩<;>refine⟨_,rfl,rfl,?_⟩)|refine au Z (hmk) ⟨aP,aP,J⟩ Z ?_|refine au Z (hnm) ⟨aP,J⟩ Z ?_)
  ·exact aH [8] [(100,_),(101,_),(102,_),(103,_),(104,_),(105,_)] (.tup [.sl 5 ((P.take k).map (fun p=>eF p.1)),.i .i64 9]) Z (aW (bP (.head _)) (am Z) Z Z) (az 100 Z (az 101 Z (az 102 Z (az 103 Z (az 104 Z (az 105 Z .nil)))))) ⟨⟨D2,S.now,S.mem,S.msz,S.st,ts,c⟩,k,9,.inr ⟨rfl,htg htt⟩,Xk,⟨rfl,rfl,rfl,rfl⟩,rfl,rfl⟩
  ·exact⟨(k+1,D2,ts++[(S.st.next+(k:Int),.cp (iY TB),c)],c+1,_),[],⟨hlt,by rw[htk,←List.append_assoc];exact hadd D2 hv2 hr2 hu2 hl2⟩,by show gs.length - (k+1)<gs.length - k;omega,rfl,⟨ai (by show (k:Int)+1=((k+1:Nat):Int);omega),ai Z,ay Z,ai (by show S.st.next+(k:Int)+1=S.st.next+((k+1:Nat):Int);omega),aJ,af,ai Z,J⟩,az 100 Z (az 101 Z (az 102 Z (az 103 Z (az 104 Z (az 105 Z (cr.cons 8 Z (aZ (by rw[htk,List.map_append,←hF];rfl)) .nil))))))⟩
 ·have hkl:k=gs.length:=by omega
  subst hkl
  repeat' (first|refine ae ?_|refine aa ?_|refine ac (ax ?_)|refine aw (ax ?_)|refine ap (bC ?_)|refine aU ab (fun _=>?_)|(refine ao Z (fun hc=>?_) (fun hc=>?_))<;>try omega)
  all_goals
   exact aH [8] [(100,_),(101,_),(102,_),(103,_),(104,_),(105,_)] (.tup [.sl 5 ((P.take gs.length).map (fun p=>eF p.1)),.i .i64 0]) Z (aW (bP (.head _)) (am Z) Z Z) (az 100 Z (az 101 Z (az 102 Z (az 103 Z (az 104 Z (az 105 Z .nil)))))) ⟨⟨D,S.now,S.mem,S.msz,S.st,ts,c⟩,gs.length,0,.inl ⟨rfl,rfl⟩,Xk,⟨rfl,rfl,rfl,rfl⟩,rfl,rfl⟩
set_option maxHeartbeats 4000000
def mL(x:aC):Prop:=0<x.k.length∧x.k.length≤100∧x.v.length≤4000∧(x.g=true→x.v=[])
theorem mL.e{x:aC}(h:mL x):Kp x:=⟨h.2.1,h.2.2.1,h.2.2.2⟩
theorem I4{p:Option (List UInt8)}{x:aC}(h:mL x)(hp:∀q,p=some q→Op.bytesLess q x.k=true):lx p x=0:=by
 have h1:¬ (x.k.length=0∨(x.g=true∧0<x.v.length)):=by
  rintro(h1|⟨h1,h2⟩)
  ·have:=h.1;omega
  ·rw[h.2.2.2 h1] at h2;exact absurd h2 (by decide)
 have h2:¬ (100<x.k.length∨4000<x.v.length):=by have:=h.2.1;have:=h.2.2.1;omega
 cases p with
 |none=>exact I3 h1 h2
 |some q=>rw[D7 h1 h2,if_pos (hp q Z)]
theorem J9{p:Option (List UInt8)}{x:aC}(h:lx p x=0):mL x:=by
 have h0:=Fk h
 refine⟨?_,h0⟩
 rcases Nat.eq_zero_or_pos x.k.length with h1|h1
 ·rw[D8 (.inl h1)] at h;cases h
 ·exact h1
theorem J6{x:aC}:di [x]=0↔mL x:=by
 have e:di [x]=if lx none x≠0 then lx none x else 0:=rfl
 rw[e]
 by_cases h:lx none x=0
 ·rw[if_neg (fun g=>g h)];exact⟨fun _=>J9 h,fun _=>rfl⟩
 ·rw[if_pos h];exact⟨fun g=>absurd g h,fun g=>absurd (I4 g (fun q hq=>by cases hq)) h⟩
theorem I2:∀(l:List aC) (p:Option (List UInt8)),Up l→(∀x∈l,mL x)→(∀q,p=some q→∀x∈l,Op.bytesLess q x.k=true)→oE p l=0
 |[],_,_,_,_=>rfl
 |x::r,p,hu,hk,hp=>by
  have hc:=List.pairwise_cons.1 hu
  have h1:=I4 (p:=p) (hk x (List.mem_cons_self ..)) (fun q hq=>hp q hq x (List.mem_cons_self ..))
  unfold oE
  rw[if_neg (by rw[h1];exact fun h=>h Z)]
  exact I2 r (some x.k) hc.2 (fun y hy=>hk y (List.mem_cons_of_mem _ hy)) (fun q hq y hy=>by cases hq;exact hc.1 y hy)
theorem I6{l:List aC}(hl:l.length≤256)(hu:Up l)(hk:∀x∈l,mL x):di l=0:=by
 unfold di
 rw[if_neg (by omega)]
 exact I2 l none hu hk (fun q hq=>by cases hq)
def kR(l:List aC):Nat:=(l.map eh).sum
theorem fD(x:aC)(l:List aC):kR (x::l)=eh x+kR l:=by unfold kR;rw[List.map_cons,List.sum_cons]
theorem ra(a b:List aC):kR (a++b)=kR a+kR b:=by unfold kR;rw[List.map_append,List.sum_append]
theorem BR{x:aC}(h:mL x):eh x≤4108:=by unfold eh;have:=h.2.1;have:=h.2.2.1;omega
theorem IE(last:List UInt8){x:aC}(h:mL x)(t:List UInt8):(BT last x t).length≤t.length+eh x+20:=by
 have h0:=(qU last x.k).2
 have hk:=h.2.1
 have hv:=h.2.2.1
 have h1:=bz (ms last x.k) (by omega)
 have h2:=eL (x.k.drop (ms last x.k)) (by rw[List.length_drop];omega)
 have h3:=eL x.v (by omega)
 rw[List.length_drop] at h2
 have h4:(pw last x).length≤19+x.k.length:=by
  unfold pw
  rw[List.length_append,List.length_append,List.length_singleton];omega
 unfold BT eh
 split
 ·rw[List.length_append];omega
 ·rw[List.length_append,List.length_append];omega
theorem Ad(l:List aC)(hk:∀x∈l,mL x)(hl:l.length≤300):∀k,k≤l.length→(dw l k).length≤9+20*k+kR (l.take k)
 |0,_=>by
  have:=bz l.length (by omega)
  show (ar l.length).length≤_
  omega
 |k+1,h=>by
  have ih:=Ad l hk hl k (by omega)
  rw[jU l k (by omega),List.take_succ_eq_append_getElem (by omega),ra,fD]
  have:=IE (fF l k) (hk l[k] (List.getElem_mem (by omega))) (dw l k)
  show _≤9+20*(k+1)+(kR (l.take k)+(eh l[k]+0))
  omega
theorem DI(size:Int)(hs:size≤16384):∀(l g:List aC) (n:Nat),(∀x∈l,mL x)→n=kR g→n≤16384→∀h∈grp size l g n,kR h≤20500
 |[],_,_,_,_,_,h,hh=>by cases hh
 |x::r,g,n,hk,hn,hb,h,hh=>by
  have hx:=BR (hk x (List.mem_cons_self ..))
  have hkr:=fun y hy=>hk y (List.mem_cons_of_mem x hy)
  have hsum:n+eh x=kR (g++[x]):=by rw[ra,hn,fD];rfl
  unfold grp at hh
  split at hh
  ·rcases List.mem_cons.1 hh with rfl|hh
   ·rw[←hsum];omega
   ·exact DI size hs r [] 0 hkr Z (by decide) h hh
  ·next hc=>
   have:¬ size≤((n+eh x:Nat):Int):=fun h=>hc (.inl h)
   exact DI size hs r (g++[x]) (n+eh x) hkr hsum (by omega) h hh
theorem I0:∀(G:List (List aC)) (a:List UInt8),(∀g∈G,0<g.length)→Up G.flatten→(∀x∈G.flatten,Op.bytesLess a x.k=true)→Jm a G
 |[],_,_,_,_=>trivial
 |g::r,a,hp,hu,ha=>by
  have hg:=hp g (List.mem_cons_self ..)
  rw[List.flatten_cons] at hu ha
  have hu2:=List.pairwise_append.1 hu
  refine⟨?_,I0 r (np g) (fun h hh=>hp h (List.mem_cons_of_mem _ hh)) hu2.2.1 (fun x hx=>?_)⟩
  ·rw[qP hg];exact ha _ (List.mem_append_left _ (List.getElem_mem hg))
  ·obtain⟨y,hy,hyk⟩:=rK hg
   rw[←hyk];exact hu2.2.2 y hy x hx
theorem EA:∀(G:List (List aC)) (idx text last:List UInt8),(∀g∈G,(jj g).2=0)→Jm last G→(nS G idx text last).2=0
 |[],_,_,_,_,_=>rfl
 |g::r,idx,text,last,hm,hc=>by
  have h:=xB (g::r) 0 (by simp) idx text last
  rw[List.drop_zero] at h
  rw[h]
  simp only[List.getElem_cons_zero]
  rw[if_neg (by rw[hm g (List.mem_cons_self ..)];exact fun h=>h Z),if_neg (by
   intro hl
   have h1:=uL.1 hl
   rw[hc.1] at h1;cases h1)]
  exact EA r _ _ _ (fun x hx=>hm x (List.mem_cons_of_mem _ hx)) hc.2
theorem Lm{l:List aC}{blk:Int}(hb:1≤blk∧blk≤16384)(hp:0<l.length)(hl:l.length≤300)(hu:Up l)(hk:∀x∈l,mL x):(mt l blk).2=0:=by
 have hfl:=nA blk l [] 0 hp
 rw[List.nil_append] at hfl
 have hgm:=rU blk l [] 0 (by decide)
 have hgs:=DI blk hb.2 l [] 0 hk Z (by decide)
 generalize hG:grp blk l [] 0=G at hfl hgm hgs
 have hm9:∀g∈G,(jj g).2=0:=fun g hg=>by
  obtain⟨g1,g2,g3⟩:=hgm g hg
  have hkg:∀x∈g,mL x:=fun x hx=>hk x ((g3 x hx).resolve_left (by simp))
  have hug:Up g:=by
   obtain⟨s,t,rfl⟩:=List.append_of_mem hg
   rw[←hfl,List.flatten_append,List.flatten_cons] at hu
   exact(List.pairwise_append.1 (List.pairwise_append.1 hu).2.1).1
  have hc:=I6 g2 hug hkg
  have ht:=Ad g hkg (by omega) g.length (Nat.le_refl _)
  rw[List.take_length] at ht
  have:=hgs g hg
  unfold jj
  rw[if_neg (by rw[hc];exact fun h=>h Z),if_neg (by omega)]
 have hch:Jm [] G:=I0 G [] (fun g hg=>(hgm g hg).1) (by rw[hfl];exact hu) (fun x hx=>by
  rw[hfl] at hx
  have h1:=(hk x hx).1
  cases hxk:x.k with
  |nil=>rw[hxk] at h1;cases h1
  |cons a b=>rfl)
 have h0:=EA G (ar G.length) [] [] hm9 hch
 unfold mt
 rw[if_neg (by omega),if_neg (by omega),hG,if_neg (by rw[h0];exact fun h=>h Z)]
theorem ri(size:Int):∀(l g:List aC) (n:Nat),∀h∈wY size l g n,0<h.length∧∀e∈h,e∈g∨e∈l
 |[],_,_,h,hh=>by cases hh
 |x::r,g,n,h,hh=>by
  unfold wY at hh
  split at hh
  ·rcases List.mem_cons.1 hh with rfl|hh
   ·exact⟨by simp,fun e he=>by
     rcases List.mem_append.1 he with he|he
     ·exact .inl he
     ·exact .inr (by rw[List.mem_singleton.1 he];exact List.mem_cons_self ..)⟩
   ·obtain⟨h1,h2⟩:=ri size r [] 0 h hh
    exact⟨h1,fun e he=>.inr (List.mem_cons_of_mem _ ((h2 e he).resolve_left (by simp)))⟩
  ·obtain⟨h1,h2⟩:=ri size r (g++[x]) (n+eh x) h hh
   refine⟨h1,fun e he=>?_⟩
   rcases h2 e he with he|he
   ·rcases List.mem_append.1 he with he|he
    ·exact .inl he
    ·exact .inr (by rw[List.mem_singleton.1 he];exact List.mem_cons_self ..)
   ·exact .inr (List.mem_cons_of_mem _ he)
theorem uF(size:Int):∀(l g:List aC) (n:Nat),(wY size l g n).length≤l.length
 |[],_,_=>Nat.le_refl _
 |x::r,g,n=>by
  unfold wY
  split
  ·have:=uF size r [] 0;simp only[List.length_cons];omega
  ·have:=uF size r (g++[x]) (n+eh x);simp only[List.length_cons];omega
theorem vg(size:Int):∀(l g:List aC) (n:Nat),0<l.length→(wY size l g n).flatten=g++l
 |[],_,_,h=>by cases h
 |x::r,g,n,_=>by
  unfold wY
  by_cases hr:r=[]
  ·subst hr
   rw[if_pos (.inr Z)]
   show (g++[x])++[]=_
   rw[List.append_nil]
  ·split
   ·rw[List.flatten_cons,vg size r [] 0 (List.length_pos_iff.2 hr),List.nil_append,List.append_assoc];rfl
   ·rw[vg size r (g++[x]) _ (List.length_pos_iff.2 hr),List.append_assoc];rfl
theorem sH(size:Int)(l:List aC):(wY size l [] 0).flatten=l:=by
 cases l with
 |nil=>rfl
 |cons x r=>exact vg size (x::r) [] 0 (by simp)
theorem EG{size blk:Int}(hb:1≤blk∧blk≤16384){l:List aC}(hl:l.length≤300)(hu:Up l)(hk:∀x∈l,mL x):∀g∈wY size l [] 0,L7 blk g:=fun g hg=>by
 obtain⟨h1,h2⟩:=ri size l [] 0 g hg
 have hkg:∀x∈g,mL x:=fun x hx=>hk x ((h2 x hx).resolve_left (by simp))
 have hfl:=sH size l
 have hsub:g.Sublist l:=by
  rw[←hfl]
  exact List.sublist_flatten_of_mem hg
 have hug:=hu.sublist hsub
 have hgl:=hsub.length_le
 exact⟨hug,h1,by omega,fun x hx=>(hkg x hx).e,Lm hb h1 (by omega) hug hkg⟩
set_option maxHeartbeats 8000000
def jt(l:List Fl)(n:Int):List Fl:=l.filter (fun f=>decide (f.lev=n))
def gx(l:List Fl)(n:Int):List Fl:=l.filter (fun f=>decide (n<f.lev))
def fi(a b:Fl):Bool:=!(Op.bytesLess a.last b.first)&&!(Op.bytesLess b.last a.first)
def Dk(a b:List UInt8):List UInt8:=if Op.bytesLess b a=true then b else a
def Bf(a b:List UInt8):List UInt8:=if Op.bytesLess a b=true then b else a
def rj(o f:Fl):Fl:={o with first:=Dk o.first f.first,last:=Bf o.last f.last}
def kK(o:Fl)(l:List Fl):Fl:=l.foldl rj o
theorem Je(l:List Fl)(n:Int)(i:Nat)(h:i<l.length):jt (l.take (i+1)) n=if l[i].lev=n then jt (l.take i) n++[l[i]] else jt (l.take i) n:=by
 unfold jt
 rw[List.take_succ_eq_append_getElem h,List.filter_append,List.filter_cons,List.filter_nil]
 by_cases hc:l[i].lev=n
 ·rw[if_pos hc,if_pos (by simpa using hc)]
 ·rw[if_neg hc,if_neg (by simpa using hc),List.append_nil]
theorem Cj(l:List Fl)(n:Int)(i:Nat)(h:i<l.length):gx (l.take (i+1)) n=if n<l[i].lev then gx (l.take i) n++[l[i]] else gx (l.take i) n:=by
 unfold gx
 rw[List.take_succ_eq_append_getElem h,List.filter_append,List.filter_cons,List.filter_nil]
 by_cases hc:n<l[i].lev
 ·rw[if_pos hc,if_pos (by simpa using hc)]
 ·rw[if_neg hc,if_neg (by simpa using hc),List.append_nil]
theorem sk(l:List Fl)(n:Int):(jt l n).length≤l.length:=List.length_filter_le _ _
theorem qX(l:List Fl)(n:Int):(gx l n).length≤l.length:=List.length_filter_le _ _
theorem CR(o:Fl)(l:List Fl)(i:Nat)(h:i<l.length):kK o (l.take (i+1))=rj (kK o (l.take i)) l[i]:=by
 unfold kK
 rw[List.take_succ_eq_append_getElem h,List.foldl_append];rfl
theorem vX(a b:List UInt8):(Op.bytesLess a b||a==b)=!Op.bytesLess b a:=by
 rcases gt a b with h|rfl|h
 ·rw[h,du h];rfl
 ·rw[cW,beq_self_eq_true];rfl
 ·rw[h,du h]
  cases hb:(a==b) with
  |false=>rfl
  |true=>
   have:a=b:=by simpa using hb
   subst this
   rw[cW] at h;cases h
theorem HT(a b:List UInt8):(if (Op.bytesLess a b||a==b)=true then a else b)=Dk a b:=by
 rw[vX];unfold Dk
 cases Op.bytesLess b a<;>rfl
theorem HV(a b:List UInt8):(if (!Op.bytesLess a b)=true then a else b)=Bf a b:=by
 unfold Bf
 cases Op.bytesLess a b<;>rfl
theorem vT(a b:Fl):aQ Tryz.prog 140 [eF a,eF b] [] (fun v os=>v= .b (fi a b)∧os=[]):=by
 refine aA ab [] Tryz.func140 Z Tryz.ntmps140 aN Z Z (fun C=>?_) Z
 have ho:fi a b=(!(Op.bytesLess a.last b.first)&&!(Op.bytesLess b.last a.first)):=rfl
 have h1:=vX a.first b.last
 have h2:=vX b.first a.last
 generalize fi a b=r at ho ⊢
 unfold eF
 repeat' (first|refine ae ?_|refine aa ?_|refine ac (ax ?_)|refine ap (bC ?_)|refine d9 Z Z Z cM ?_|refine aU ab (fun _=>?_)|refine c9 Z Z Z Z (fun _=>?_)|(fail_if_success (refine aM Z cM ?_));(refine dM Z Z (fun hc=>?_) (fun hc=>?_)))
 ·refine bp Z Z Z [] [] (am ?_) .nil ⟨rfl,rfl⟩ _ (.inl Z)
  refine congrArg AV.b ?_
  rw[h2,ho]
  rw[h1] at hc
  rw[hc,Bool.and_true]
 ·refine bp Z Z Z [] [] (am ?_) .nil ⟨rfl,rfl⟩ _ (.inl Z)
  refine congrArg AV.b ?_
  rw[ho]
  rw[h1] at hc
  rw[hc,Bool.and_false]
theorem zR(s:iH)(n:Int)(hl:s.fs.length≤1000):aQ Tryz.prog 99 [iA s,.i .i64 n] [] (fun v os=>v= .sl 5 ((jt s.fs n).map eF)∧os=[]):=by
 refine aA ab [] Tryz.func99 Z Tryz.ntmps99 aN Z Z (fun C=>?_) Z
 unfold iA
 repeat' (first|refine ae ?_|refine aj ?_|refine aa ?_|refine ac (ax ?_)|refine br Z ab Z Z Z (fun _=>?_)|refine aU ab (fun _=>?_)|refine c9 (d:=2) Z Z Z Z (fun b2=>?_))
 refine aO (fun q:Nat×Value=>⟨25,[(11,.i .i64 q.1),(10,.i .i64 s.fs.length),(9,.sl 5 (s.fs.map eF)),(5,.own 22 q.2),(1,.i .i64 n)],[(22,.row q.2 76 5 ((jt (s.fs.take q.1) n).map eF))]⟩) (fun q=>q.1≤s.fs.length) (fun q=>s.fs.length - q.1) [] (0,.slice none 0 0) (Nat.zero_le _) ?_ ?_
 ·exact⟨rfl,⟨ai Z,ai Z,ay Z,dp,ai Z,J⟩,.none .nil⟩
 rintro⟨i,v⟩ hi
 dsimp only at hi ⊢
 by_cases hlt:i<s.fs.length
 ·have hfl:=sk (s.fs.take i) n
  rw[List.length_take] at hfl
  have hst:=Je s.fs n i hlt
  generalize jt (s.fs.take i) n=out at hfl hst ⊢
  repeat' (first|refine ae ?_|refine aj ?_|refine aa ?_|refine ac (ax ?_)|refine ac (db ?_)|refine ah (ax ?_)|(refine bc Z Z Z Z ?_ ?_;omega)|refine aU ab (fun _=>?_)|refine aF (d:=7) Z ab Z Z Z (fun b7=>?_)|refine aD ab Z Z Z Z Z Z Z ⟨rfl,rfl⟩ Z Z Z Z Z ?_|(refine aK Z ab Z Z Z Z Z Z ?_ (aE ?_) ?_;omega;omega)|refine aI ab Z Z Z Z Z Z Z Z Z Z Z eo (fun _=>?_)|(refine bH ab Z Z Z Z Z Z Z Z Z (by first|exact J|exact rfl) Z Z (fun _=>rfl) ?_ ?_ (fun _=>?_);(exact dt);(exact dt))|(refine ao Z (fun hc=>?_) (fun hc=>?_))<;>try omega)
  ·refine⟨(i+1,_),[],by show i+1≤s.fs.length;omega,by show s.fs.length - (i+1)<s.fs.length - i;omega,rfl,⟨ai Z,ai Z,ay Z,aJ,ai Z,J⟩,cr.cons 22 Z (aZ ?_) .nil⟩
   rw[hst,if_pos hc,List.map_append];rfl
  ·refine⟨(i+1,_),[],by show i+1≤s.fs.length;omega,by show s.fs.length - (i+1)<s.fs.length - i;omega,rfl,⟨ai Z,ai Z,ay Z,aJ,ai Z,J⟩,cr.cons 22 Z (aZ ?_) .nil⟩
   rw[hst,if_neg hc]
 ·have hil:i=s.fs.length:=by omega
  subst hil
  rw[List.take_length]
  repeat' (first|refine ae ?_|refine aa ?_|refine ac (ax ?_)|refine aw (ax ?_)|refine ap (bC ?_)|refine aU ab (fun _=>?_)|(refine ao Z (fun hc=>?_) (fun hc=>?_))<;>try omega)
  refine bp Z Z Z [22] [] (bP ?_) .nil ⟨rfl,rfl⟩ _ (.inl Z)
  exact .head _
theorem xH(l:List Fl)(h0:0<l.length)(hl:l.length≤1000):aQ Tryz.prog 139 [.sl 5 (l.map eF)] [] (fun v os=>v=eF (kK l[0] l)∧os=[]):=by
 refine aA ab [] Tryz.func139 Z Tryz.ntmps139 aN Z Z (fun C=>?_) Z
 repeat' (first|refine ae ?_|refine aj ?_|refine aa ?_|refine ac (ax ?_)|refine br Z ab Z Z Z (fun _=>?_)|refine aU ab (fun _=>?_)|refine aF (d:=2) Z ab Z Z Z (fun b2=>?_)|refine aF (d:=3) Z ab Z Z Z (fun b3=>?_)|refine aD ab Z Z Z Z Z Z Z ⟨rfl,rfl⟩ Z Z Z Z Z ?_|(refine aK Z ab Z Z Z Z Z Z ?_ (aE ?_) ?_;omega;omega))
 refine aO (fun q:Nat=>⟨29,[(11,.i .i64 q),(10,.i .i64 l.length),(9,.sl 5 (l.map eF)),(3,.ptr 3 b3 [] 0),(2,.ptr 2 b2 [] 0)],[(3,.var b3 (eF (kK l[0] (l.take q)))),(2,.var b2 (.agg [.i .i64 0,.i .i64 0,.i .i64 0,.s [],.s []]))]⟩) (fun q=>q≤l.length) (fun q=>l.length - q) [] 0 (Nat.zero_le _) ?_ ?_
 ·exact⟨rfl,⟨ai Z,ai Z,ay Z,af,af,J⟩,az 3 Z (az 2 Z .nil)⟩
 intro i hi
 by_cases hlt:i<l.length
 ·have hst:=CR l[0] l i hlt
  generalize kK l[0] (l.take i)=o at hst ⊢
  have h1:=HT o.first l[i].first
  have h2:=HV o.last l[i].last
  repeat' (first|refine ae ?_|refine aj ?_|refine aa ?_|refine ac (ax ?_)|refine ac (db ?_)|refine ah (ax ?_)|(refine bc Z Z Z Z ?_ ?_;omega)|refine aU ab (fun _=>?_)|refine aF (d:=5) Z ab Z Z Z (fun b5=>?_)|refine aD ab Z Z Z Z Z Z Z ⟨rfl,rfl⟩ Z Z Z Z Z ?_|(refine aK Z ab Z Z Z Z Z Z ?_ (aE ?_) ?_;omega;omega)|(refine ao Z (fun hc=>?_) (fun hc=>?_))<;>try omega|refine cg 5 [3] [16,18,21] [] [0,2,5,7,1,3,4,6,10,8,9,11,12,13] aN aN aN Z Z Z ?_)
  refine⟨i+1,[],hlt,by show l.length - (i+1)<l.length - i;omega,rfl,⟨ai Z,ai Z,ay Z,af,af,J⟩,cr.cons 3 Z (bW (am ?_)) (az 2 Z .nil)⟩
  rw[h1,h2,hst];rfl
 ·have hil:i=l.length:=by omega
  subst hil
  rw[List.take_length]
  generalize kK l[0] l=o
  repeat' (first|refine ae ?_|refine aa ?_|refine ac (ax ?_)|refine aw (ax ?_)|refine ap (bC ?_)|refine aU ab (fun _=>?_)|refine aD ab Z Z Z Z Z Z Z ⟨rfl,rfl⟩ Z Z Z Z Z ?_|(refine ao Z (fun hc=>?_) (fun hc=>?_))<;>try omega)
  refine cS [] [] (eF o) Z ?_ ?_ (Cq.slot (bu (am Z) Z)) .nil ⟨rfl,rfl⟩ _ (.inl Z)
  all_goals first|exact⟨trivial,trivial⟩|trivial|exact⟨trivial,trivial,trivial⟩|trace_state
structure Jb where
 lev:Int
 fr:List Int
 to:List Int
def eJ(j:Jb):AV:=.agg [.i .i64 j.lev,.sl 1 (j.fr.map (AV.i .i64)),.sl 1 (j.to.map (AV.i .i64))]
def zJ:Jb:=⟨0,[],[]⟩
def eR(r:Jb×Bool):AV:=.tup [eJ r.1,.b r.2]
theorem zN{fr:Fr}:aL fr (.agg [.i .i64 0,.nil,.nil]) (eJ zJ):=bS (.cons (av _) (.cons cQ (.cons cQ .nil)))
def zF:Fl:=⟨0,0,0,[],[]⟩
def mE:List Fl→Fl
 |[]=>zF
 |x::l=>kK x (x::l)
theorem Aq(l:List Fl)(h:0<l.length):mE l=kK l[0] l:=by
 cases l with
 |nil=>exact absurd h (Nat.lt_irrefl _)
 |cons x l=>rfl
def G6(l:List Fl)(sp:Fl):List Int:=(l.filter (fi sp)).map Fl.num
def lu(fs:List Fl)(n:Int)(l:List Fl):Jb:=⟨n,l.map Fl.num,G6 (jt fs (n+1)) (mE l)⟩
theorem G5(l:List Fl)(sp:Fl)(i:Nat)(h:i<l.length):G6 (l.take (i+1)) sp=if fi sp l[i]=true then G6 (l.take i) sp++[l[i].num] else G6 (l.take i) sp:=by
 unfold G6
 rw[List.take_succ_eq_append_getElem h,List.filter_append,List.filter_cons,List.filter_nil]
 by_cases hc:fi sp l[i]=true
 ·rw[if_pos hc,if_pos hc,List.map_append];rfl
 ·rw[if_neg hc,if_neg hc,List.append_nil]
theorem Jr(l:List Fl)(sp:Fl):(G6 l sp).length≤l.length:=by unfold G6;rw[List.length_map];exact List.length_filter_le _ _
theorem Df(l:List Fl)(i:Nat)(h:i<l.length):(l.take (i+1)).map Fl.num=(l.take i).map Fl.num++[l[i].num]:=by
 rw[List.take_succ_eq_append_getElem h,List.map_append];rfl
theorem Bx(l:List Int)(i:Nat)(h:i<l.length)(hno:∀j (h':j<l.length),j<i→l[j]≠l[i]):l.idxOf l[i]=i:=by
 induction l generalizing i with
 |nil=>exact absurd h (Nat.not_lt_zero _)
 |cons x l ih=>
  cases i with
  |zero=>simp
  |succ i=>
   have hx:x≠(x::l)[i+1]:=hno 0 (Nat.zero_lt_succ _) (Nat.zero_lt_succ _)
   rw[List.idxOf_cons,cond_eq_ite,if_neg (by simpa using hx)]
   congr 1
   exact ih i (by simpa using h) (fun j hj hji=>hno (j+1) (by simpa using hj) (by omega))
theorem wJ(s:iH)(n:Int)(hl:s.fs.length≤1000):aQ Tryz.prog 107 [iA s,.i .i64 n] [] (fun v os=>v= .sl 5 ((gx s.fs n).map eF)∧os=[]):=by
 refine aA ab [] Tryz.func107 Z Tryz.ntmps107 aN Z Z (fun C=>?_) Z
 unfold iA
 repeat' (first|refine ae ?_|refine aj ?_|refine aa ?_|refine ac (ax ?_)|refine br Z ab Z Z Z (fun _=>?_)|refine aU ab (fun _=>?_)|refine c9 (d:=2) Z Z Z Z (fun b2=>?_))
 refine aO (fun q:Nat×Value=>⟨25,[(11,.i .i64 q.1),(10,.i .i64 s.fs.length),(9,.sl 5 (s.fs.map eF)),(5,.own 22 q.2),(1,.i .i64 n)],[(22,.row q.2 76 5 ((gx (s.fs.take q.1) n).map eF))]⟩) (fun q=>q.1≤s.fs.length) (fun q=>s.fs.length - q.1) [] (0,.slice none 0 0) (Nat.zero_le _) ?_ ?_
 ·exact⟨rfl,⟨ai Z,ai Z,ay Z,dp,ai Z,J⟩,.none .nil⟩
 rintro⟨i,v⟩ hi
 dsimp only at hi ⊢
 by_cases hlt:i<s.fs.length
 ·have hfl:=qX (s.fs.take i) n
  rw[List.length_take] at hfl
  have hst:=Cj s.fs n i hlt
  generalize gx (s.fs.take i) n=out at hfl hst ⊢
  repeat' (first|refine ae ?_|refine aj ?_|refine aa ?_|refine ac (ax ?_)|refine ac (db ?_)|refine ah (ax ?_)|(refine bc Z Z Z Z ?_ ?_;omega)|refine aU ab (fun _=>?_)|refine aF (d:=7) Z ab Z Z Z (fun b7=>?_)|refine aD ab Z Z Z Z Z Z Z ⟨rfl,rfl⟩ Z Z Z Z Z ?_|(refine aK Z ab Z Z Z Z Z Z ?_ (aE ?_) ?_;omega;omega)|refine aI ab Z Z Z Z Z Z Z Z Z Z Z eo (fun _=>?_)|(refine bH ab Z Z Z Z Z Z Z Z Z (by first|exact J|exact rfl) Z Z (fun _=>rfl) ?_ ?_ (fun _=>?_);(exact dt);(exact dt))|(refine ao Z (fun hc=>?_) (fun hc=>?_))<;>try omega)
  ·refine⟨(i+1,_),[],by show i+1≤s.fs.length;omega,by show s.fs.length - (i+1)<s.fs.length - i;omega,rfl,⟨ai Z,ai Z,ay Z,aJ,ai Z,J⟩,cr.cons 22 Z (aZ ?_) .nil⟩
   rw[hst,if_pos hc,List.map_append];rfl
  ·refine⟨(i+1,_),[],by show i+1≤s.fs.length;omega,by show s.fs.length - (i+1)<s.fs.length - i;omega,rfl,⟨ai Z,ai Z,ay Z,aJ,ai Z,J⟩,cr.cons 22 Z (aZ ?_) .nil⟩
   rw[hst,if_neg hc]
 ·have hil:i=s.fs.length:=by omega
  subst hil
  rw[List.take_length]
  repeat' (first|refine ae ?_|refine aa ?_|refine ac (ax ?_)|refine aw (ax ?_)|refine ap (bC ?_)|refine aU ab (fun _=>?_)|(refine ao Z (fun hc=>?_) (fun hc=>?_))<;>try omega)
  refine bp Z Z Z [22] [] (bP ?_) .nil ⟨rfl,rfl⟩ _ (.inl Z)
  exact .head _
theorem Ij(l:List Int)(n:Int)(hl:l.length≤100000):aQ Tryz.prog 157 [.sl 1 (l.map (AV.i .i64)),.i .i64 n] [] (fun v os=>v= .i .i64 (if l.contains n=true then (l.idxOf n:Nat) else -1)∧os=[]):=by
 refine aA ab [] Tryz.func157 Z Tryz.ntmps157 aN Z Z (fun C=>?_) Z
 repeat' (first|refine ae ?_|refine aj ?_|refine aa ?_|refine ac (ax ?_)|refine br Z ab Z Z Z (fun _=>?_)|refine aU ab (fun _=>?_))
 refine aO (fun q:Nat=>⟨19,[(8,.i .i64 q),(7,.i .i64 l.length),(0,.sl 1 (l.map (AV.i .i64))),(1,.i .i64 n)],[]⟩) (fun q=>q≤l.length∧∀j (h:j<l.length),j<q→l[j]≠n) (fun q=>l.length - q) [] 0 ⟨Nat.zero_le _,fun _ _ h=>absurd h (Nat.not_lt_zero _)⟩ ?_ ?_
 ·exact⟨rfl,⟨ai Z,ai Z,ay Z,ai Z,J⟩,.nil⟩
 rintro i ⟨hi,hno⟩
 by_cases hlt:i<l.length
 ·repeat' (first|refine ae ?_|refine aj ?_|refine aa ?_|refine ac (ax ?_)|refine ac (db ?_)|refine ah (ax ?_)|refine ap (bC ?_)|(refine bc Z Z Z Z ?_ ?_;omega)|refine aU ab (fun _=>?_)|(refine aK Z ab Z Z Z Z Z Z ?_ (aE ?_) ?_;omega;omega)|(refine ao Z (fun hc=>?_) (fun hc=>?_))<;>try omega)
  ·have hm:l.contains n=true:=by rw[List.contains_iff_mem,hc];exact List.getElem_mem _
   have hx:l.idxOf n=i:=by
    rw[hc]
    exact Bx l i hlt (fun j h hj=>by have:=hno j h hj;rwa [hc] at this)
   refine bp Z Z Z [] [] (am ?_) .nil ⟨rfl,rfl⟩ _ (.inl Z)
   rw[if_pos hm,hx];rfl
  ·exact⟨i+1,[],⟨hlt,fun j h hj=>by
    rcases Nat.lt_succ_iff_lt_or_eq.1 hj with h2|rfl
    ·exact hno j h h2
    ·exact fun e=>hc e.symm⟩,by show l.length - (i+1)<l.length - i;omega,rfl,⟨ai Z,ai Z,ay Z,ai Z,J⟩,.nil⟩
 ·have hm:¬ l.contains n=true:=by
   rw[List.contains_iff_mem]
   intro h
   obtain⟨j,hj,hje⟩:=List.getElem_of_mem h
   exact hno j hj (by omega) hje
  rw[if_neg hm]
  repeat' (first|refine ae ?_|refine aa ?_|refine ac (ax ?_)|refine aw (ax ?_)|refine ap (bC ?_)|refine aU ab (fun _=>?_)|(refine ao Z (fun hc=>?_) (fun hc=>?_))<;>try omega)
  exact jh
theorem kG(l:List Int)(n:Int)(hl:l.length≤100000):aQ Tryz.prog 137 [.sl 1 (l.map (AV.i .i64)),.i .i64 n] [] (fun v os=>v= .b (l.contains n)∧os=[]):=by
 refine aA ab [] Tryz.func137 Z Tryz.ntmps137 aN Z Z (fun C=>?_) Z
 have h1:=Ij l n hl
 cases hm:l.contains n with
 |true=>
  rw[if_pos hm] at h1
  generalize l.idxOf n=i at h1
  repeat' (first|refine ae ?_|refine aa ?_|refine ac (ax ?_)|refine ap (bC ?_)|refine aU ab (fun _=>?_)|refine au Z (h1) ⟨aP,aP,J⟩ Z ?_)
  refine bp Z Z Z [] [] (am ?_) .nil ⟨rfl,rfl⟩ _ (.inl Z)
  exact congrArg AV.b (decide_eq_true (by omega))
 |false=>
  rw[if_neg (by rw[hm];decide)] at h1
  repeat' (first|refine ae ?_|refine aa ?_|refine ac (ax ?_)|refine ap (bC ?_)|refine aU ab (fun _=>?_)|refine au Z (h1) ⟨aP,aP,J⟩ Z ?_)
  exact jh
end Go.Proofs.YtginkbjclkdglaaGreat
