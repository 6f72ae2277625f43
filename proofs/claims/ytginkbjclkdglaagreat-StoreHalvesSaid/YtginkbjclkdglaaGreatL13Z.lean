/- The statements' own functions of the level chapter by rules: tolds, told, same, SameInts, among, awake. -/
import Derived.Test.YtginkbjclkdglaaGreatL6Z
import Derived.Test.YtginkbjclkdglaaGreatKWZ
import Derived.Test.YtginkbjclkdglaaGreatL3Z
import Derived.Test.YtginkbjclkdglaaGreatV1Z
set_option maxHeartbeats 8000000
set_option maxRecDepth 100000
namespace Go.Proofs.YtginkbjclkdglaaGreat
open Go Go.RowKit
def OE:iH:=⟨4,0,[⟨3,0,0,[97],[99]⟩,⟨2,0,0,[98],[102]⟩,⟨1,1,0,[101],[107]⟩]⟩
def OG:Jb:=⟨0,[3,2],[1]⟩
def Nh(f:Fl):Fl:={f with first:=f.first.take 110,last:=f.last.take 110}
def JY(l:List Fl)(n:Nat):List Fl:=(l.take n).map Nh
def Ob(s:iH):iH:=⟨s.next,s.log,JY s.fs 40⟩
def Oe(j:Jb):Prop:=j.fr.length≤1000∧j.to.length≤1000∧0≤j.lev∧j.lev≤3
def qf(a b:List UInt8):Prop:=Op.bytesLess b a=false
theorem ns(a:List UInt8):qf a a:=cW a
theorem nr{a b c:List UInt8}(h:qf a b)(k:qf b c):qf a c:=by
 unfold qf at*
 cases hb:Op.bytesLess c a with
 |false=>rfl
 |true=>
  rcases gt a b with h1|rfl|h1
  ·rw[dZ hb h1] at k;exact absurd k (by decide)
  ·rw[hb] at k;exact absurd k (by decide)
  ·rw[h1] at h;exact absurd h (by decide)
theorem LJ(a b:List UInt8):qf (Dk a b) a:=by
 unfold Dk;split
 ·rename_i h;exact du h
 ·exact ns a
theorem LI(a b:List UInt8):qf (Dk a b) b:=by
 unfold Dk;split
 ·exact ns b
 ·rename_i h;unfold qf;simpa using h
theorem LM(a b:List UInt8):qf a (Bf a b):=by
 unfold Bf;split
 ·rename_i h;exact du h
 ·exact ns a
theorem LL(a b:List UInt8):qf b (Bf a b):=by
 unfold Bf;split
 ·exact ns b
 ·rename_i h;unfold qf;simpa using h
theorem FE(l:List Fl):∀(o:Fl),qf (kK o l).first o.first∧qf o.last (kK o l).last∧∀f∈l,qf (kK o l).first f.first∧qf f.last (kK o l).last:=by
 induction l with
 |nil=>exact fun o=>⟨ns _,ns _,fun f hf=>by cases hf⟩
 |cons x l ih=>
  intro o
  obtain⟨h1,h2,h3⟩:=ih (rj o x)
  have e:kK o (x::l)=kK (rj o x) l:=rfl
  rw[e]
  refine⟨nr h1 (LJ _ _),nr (LM _ _) h2,fun f hf=>?_⟩
  rcases List.mem_cons.1 hf with rfl|hf
  ·exact⟨nr h1 (LI _ _),nr (LL _ _) h2⟩
  ·exact h3 f hf
theorem xI(l:List Fl):∀f∈l,qf (mE l).first f.first∧qf f.last (mE l).last:=by
 cases l with
 |nil=>exact fun f hf=>by cases hf
 |cons x l=>exact(FE (x::l) x).2.2
theorem Bh(next:Int):∀(l pre:List Fl),Ct next pre l=0→(∀f∈l,∀g∈pre,g.num≠f.num)∧(∀f∈l,∀g∈l,f.num=g.num→f=g)
 |[],_,_=>⟨fun f hf=>(by cases hf),fun f hf=>(by cases hf)⟩
 |x::l,pre,h=>by
  rw[Ct] at h
  by_cases hc:mc next pre x=0
  ·rw[if_neg (fun n=>n hc)] at h
   obtain⟨i1,i2⟩:=Bh next l _ h
   have hnf:¬ qQ pre x:=fun hf=>by
    by_cases ha:kX next x
    ·rw[nC ha] at hc;cases hc
    ·rw[p7 ha hf] at hc;cases hc
   have hx:∀g∈pre,g.num≠x.num:=fun g hg he=>hnf (.inr (.inr (.inr (by
    rw[List.contains_iff_mem,List.mem_map];exact⟨g,hg,he⟩))))
   refine⟨fun f hf g hg=>?_,fun f hf g hg he=>?_⟩
   ·rcases List.mem_cons.1 hf with rfl|hf
    ·exact hx g hg
    ·exact i1 f hf g (List.mem_append.2 (.inl hg))
   ·rcases List.mem_cons.1 hf with ef|hf'<;>rcases List.mem_cons.1 hg with eg|hg'
    ·rw[ef,eg]
    ·exact absurd he (i1 g hg' f (by rw[ef];simp))
    ·exact absurd he.symm (i1 f hf' g (by rw[eg];simp))
    ·exact i2 f hf' g hg' he
  ·rw[if_pos hc] at h
   exact absurd h hc
theorem uc{s:iH}(h:bT s=0):∀f∈s.fs,∀g∈s.fs,f.num=g.num→f=g:=by
 unfold bT at h
 split at h
 ·cases h
 ·split at h
  ·cases h
  ·exact(Bh _ _ _ h).2
def Ok(key:List UInt8)(f:Fl):Prop:=qf f.first key∧qf key f.last
theorem HU(l:List Fl):∀(o:Fl),qJ o l=o∨qJ o l∈l:=by
 induction l with
 |nil=>exact fun o=>.inl Z
 |cons x l ih=>
  intro o
  have e:qJ o (x::l)=qJ (lp o x) l:=rfl
  rw[e]
  rcases ih (lp o x) with h|h
  ·rw[h];unfold lp;split
   ·exact .inr (by simp)
   ·exact .inl Z
  ·exact .inr (List.mem_cons_of_mem _ h)
theorem Ba(l:List Fl)(h:0<l.length):vQ l∈l:=by
 cases l with
 |nil=>exact absurd h (Nat.lt_irrefl _)
 |cons x l=>
  rcases HU (x::l) x with h|h
  ·show qJ x (x::l)∈_;rw[h];simp
  ·exact h
def v4(s:iH)(j:Jb):Prop:=bT s=0∧∃n l,j=lu s.fs n l∧(∀x∈l,x∈jt s.fs n)∧(n=0→l=jt s.fs 0)
theorem rB(s:iH)(h:bT s=0)(size:Int)(hs:1≤size):∀(k:Nat) (n:Int),1≤n→(iL s.fs size k n).2=true→v4 s (iL s.fs size k n).1
 |0,_,_,h2=>by cases h2
 |k+1,n,hn,h2=>by
  rw[iL] at h2 ⊢
  by_cases hc:(if n=2 then 8*size else size)<mT (jt s.fs n)
  ·rw[if_pos hc] at h2 ⊢
   have h0:0<(jt s.fs n).length:=by
    rcases Nat.eq_zero_or_pos (jt s.fs n).length with h|h
    ·have:jt s.fs n=[]:=List.length_eq_zero_iff.1 h
     rw[this] at hc
     have:mT []=0:=rfl
     split at hc<;>omega
    ·exact h
   exact⟨h,n,[vQ (jt s.fs n)],rfl,fun x hx=>by rw[List.mem_singleton.1 hx];exact Ba _ h0,fun h=>by omega⟩
  ·rw[if_neg hc] at h2 ⊢
   exact rB s h size hs k (n+1) (by omega) h2
theorem FZ(s:iH)(cnt size:Int)(h2:(lZ s cnt size).2=true):v4 s (lZ s cnt size).1:=by
 unfold lZ at h2 ⊢
 by_cases hb:jx (bT s) cnt size
 ·rw[if_pos hb] at h2;cases h2
 ·rw[if_neg hb] at h2 ⊢
  unfold jx at hb
  by_cases hc:cnt≤((jt s.fs 0).length:Nat)
  ·rw[if_pos hc] at h2 ⊢
   exact⟨by omega,0,jt s.fs 0,rfl,fun x hx=>hx,fun _=>rfl⟩
  ·rw[if_neg hc] at h2 ⊢
   exact rB s (by omega) size (by omega) 2 1 (by decide) h2
def GY(fs:List Fl)(n:Int):Bool:=decide (0<(jt fs n).length∧(n=0∨0<(gx fs n).length))
def fM(fs:List Fl):Nat→Int→Jb×Bool
 |0,_=>(zJ,false)
 |k+1,n=>if GY fs n=true then (lu fs n (jt fs n),true) else fM fs k (n+1)
def fW(s:iH):Jb×Bool:=if bT s≠0 then (zJ,false) else fM s.fs 3 0
theorem Cw(s:iH)(hl:s.fs.length≤1000):aQ Tryz.prog 54 [iA s] [] (fun v os=>v=eR (fW s)∧os=[]):=by
 refine aA ab [] Tryz.func54 Z Tryz.ntmps54 aN Z Z (fun C=>?_) Z
 have hck:=jk s
 have hw:fW s=if bT s≠0 then (zJ,false) else fM s.fs 3 0:=rfl
 generalize fW s=r at hw ⊢
 generalize bT s=c at hck hw
 have hjob:=fun n l=>Bq s n l hl
 have hat:=fun n=>zR s n hl
 have hbe:=fun n=>wJ s n hl
 unfold iA at*
 by_cases hc0:c=0
 ·subst hc0
  rw[if_neg (fun h=>h Z)] at hw
  repeat' (first|refine ae ?_|refine aj ?_|refine aa ?_|refine ac (ax ?_)|refine ah (ax ?_)|refine aU ab (fun _=>?_)|refine aF (d:=2) Z ab Z Z Z (fun b2=>?_)|refine c9 (d:=1) Z Z Z Z (fun b1=>?_)|refine aB Z ?_|refine au Z (hck) ⟨aP,J⟩ Z ?_)
  refine aO (fun q:Nat=>⟨36,[(10,.i .i64 q),(2,.ptr 2 b2 [] 0),(1,.ptr 1 b1 [] 0)],[(2,.var b2 (.agg [.i .i64 0,.nil,.nil])),(1,.var b1 (.agg [.i .i64 s.next,.i .i64 s.log,.sl 5 (s.fs.map eF)]))]⟩) (fun q=>q≤3∧r=fM s.fs (3 - q) (q:Int)) (fun q=>3 - q) [] 0 ⟨by decide,hw⟩ ?_ ?_
  ·exact⟨rfl,⟨ai Z,af,af,J⟩,az 2 Z (az 1 Z .nil)⟩
  rintro n ⟨hn,hr⟩
  by_cases hlt:n<3
  ·have hn3:3 - n=(3 - (n+1))+1:=by omega
   rw[hn3,fM] at hr
   have hat:=hat n
   have hbe:=hbe n
   have hjob:=hjob n (jt s.fs n)
   have hal:=sk s.fs n
   have hbl:=qX s.fs n
   have hwo:GY s.fs n=decide (0<(jt s.fs n).length∧((n:Int)=0∨0<(gx s.fs n).length)):=rfl
   generalize GY s.fs n=wo at hwo hr
   generalize lu s.fs n (jt s.fs n)=jb at hr hjob
   generalize jt s.fs n=al at hat hjob hal hwo
   generalize gx s.fs n=bl at hbe hbl hwo
   by_cases hw2:0<al.length∧((n:Int)=0∨0<bl.length)
   ·rw[decide_eq_true hw2] at hwo
    rw[hwo,if_pos Z] at hr
    subst hr
    have hjob:=hjob hw2.1 (by omega) (by omega)
    repeat' (first|refine ae ?_|refine aj ?_|refine aa ?_|refine ac (ax ?_)|refine ah (ax ?_)|refine ap (bC ?_)|refine ib Z Z Z cM ?_|refine br Z ab Z Z Z (fun _=>?_)|refine aU ab (fun _=>?_)|refine aD ab Z Z Z Z Z Z Z ⟨rfl,rfl⟩ Z Z Z Z Z ?_|(fail_if_success (refine aM Z cM ?_));(refine aV Z Z (fun hc=>?_) (fun hc=>?_)<;>try omega)|refine aR Z ?_|(refine ao Z (fun hc=>?_) (fun hc=>?_))<;>try omega|refine au Z (hat) ⟨aP,aP,J⟩ Z ?_|refine au Z (hbe) ⟨aP,aP,J⟩ Z ?_|refine au Z (hjob) ⟨aP,aP,aP,J⟩ Z ?_)
    all_goals refine cS [] [] (.tup [eJ jb,.b true]) Z ?_ ?_ (aW (am Z) (am Z) Z Z) .nil ⟨rfl,rfl⟩ _ (.inl Z)
    all_goals first|exact⟨trivial,trivial⟩|trivial|exact⟨trivial,trivial,trivial⟩|(repeat' (first|exact J|exact rfl|refine⟨?_,?_⟩))
   ·rw[decide_eq_false hw2] at hwo
    rw[hwo,if_neg (by decide)] at hr
    repeat' (first|refine ae ?_|refine aj ?_|refine aa ?_|refine ac (ax ?_)|refine ac (db ?_)|refine ah (ax ?_)|refine d9 Z Z Z cM ?_|refine vG Z Z Z cM ?_|(refine bc Z Z Z Z ?_ ?_;omega)|refine br Z ab Z Z Z (fun _=>?_)|refine aU ab (fun _=>?_)|(fail_if_success (refine aM Z cM ?_));(refine aV Z Z (fun hc=>?_) (fun hc=>?_)<;>try omega)|refine aB Z ?_|(refine ao Z (fun hc=>?_) (fun hc=>?_))<;>try omega|refine au Z (hat) ⟨aP,aP,J⟩ Z ?_|refine au Z (hbe) ⟨aP,aP,J⟩ Z ?_)
    all_goals exact⟨n+1,[],⟨hlt,hr⟩,by show 3 - (n+1)<3 - n;omega,rfl,⟨ai Z,af,af,J⟩,az 2 Z (az 1 Z .nil)⟩
  ·have hn3:3 - n=0:=by omega
   rw[hn3,fM] at hr
   subst hr
   repeat' (first|refine ae ?_|refine aa ?_|refine ac (ax ?_)|refine aw (ax ?_)|refine ap (bC ?_)|refine aU ab (fun _=>?_)|refine aD ab Z Z Z Z Z Z Z ⟨rfl,rfl⟩ Z Z Z Z Z ?_|refine cd ab Z Z Z Z Z Z eo ?_|(refine ao Z (fun hc=>?_) (fun hc=>?_))<;>try omega)
   refine cS [] [] (.tup [eJ zJ,.b false]) Z ?_ ?_ (aW zN (am Z) Z Z) .nil ⟨rfl,rfl⟩ _ (.inl Z)
   all_goals first|exact⟨trivial,trivial⟩|trivial|exact⟨trivial,trivial,trivial⟩|(repeat' (first|exact J|exact rfl|refine⟨?_,?_⟩))
 ·rw[if_pos hc0] at hw
  subst hw
  repeat' (first|refine ae ?_|refine aa ?_|refine ac (ax ?_)|refine ap (bC ?_)|refine aU ab (fun _=>?_)|refine aF (d:=2) Z ab Z Z Z (fun b2=>?_)|refine c9 (d:=1) Z Z Z Z (fun b1=>?_)|refine aD ab Z Z Z Z Z Z Z ⟨rfl,rfl⟩ Z Z Z Z Z ?_|refine cd ab Z Z Z Z Z Z eo ?_|(refine bF Z (fun hc=>?_) (fun hc=>?_))<;>try omega|refine au Z (hck) ⟨aP,J⟩ Z ?_)
  refine cS [] [] (.tup [eJ zJ,.b false]) Z ?_ ?_ (aW zN (am Z) Z Z) .nil ⟨rfl,rfl⟩ _ (.inl Z)
  all_goals first|exact⟨trivial,trivial⟩|trivial|exact⟨trivial,trivial,trivial⟩|(repeat' (first|exact J|exact rfl|refine⟨?_,?_⟩))
structure WO{α:Type}(lt:α→α→Bool):Prop where
 irr:∀x,lt x x=false
 asym:∀x y,lt x y=true→lt y x=false
 trans:∀x y z,lt x y=true→lt y z=true→lt x z=true
 neg:∀x y z,lt x y=false→lt y z=false→lt x z=false
section
variable {α:Type} {lt:α→α→Bool}
def IB(lt:α→α→Bool)(x y:α):Bool:=!(lt x y)&&!(lt y x)
def CE(lt:α→α→Bool)(l l':List α):Prop:=∀z,l.filter (IB lt z)=l'.filter (IB lt z)
def ly(lt:α→α→Bool)(l:List α):Prop:=l.Pairwise (fun x y=>lt y x=false)
theorem CE.refl(l:List α):CE lt l l:=fun _=>rfl
theorem CE.symm{l l':List α}(h:CE lt l l'):CE lt l' l:=fun z=>(h z).symm
theorem CE.trans{a b c:List α}(h:CE lt a b)(k:CE lt b c):CE lt a c:=fun z=>(h z).trans (k z)
theorem CE.app{a b c d:List α}(h:CE lt a b)(k:CE lt c d):CE lt (a++c) (b++d):=fun z=>by rw[List.filter_append,List.filter_append,h z,k z]
theorem CE.mid{a b:List α}(p s:List α)(h:CE lt a b):CE lt (p++a++s) (p++b++s):=((CE.refl p).app h).app (CE.refl s)
theorem BQ(W:WO lt)(x:α):IB lt x x=true:=by unfold IB;rw[W.irr];rfl
theorem CE.mem(W:WO lt){a b:List α}(h:CE lt a b){x:α}(hx:x∈a):x∈b:=by
 have:x∈a.filter (IB lt x):=List.mem_filter.2 ⟨hx,BQ W x⟩
 rw[h x] at this
 exact(List.mem_filter.1 this).1
theorem CE.swap(W:WO lt)(u v:List α)(h:∀x∈u,∀y∈v,lt y x=true):CE lt (u++v) (v++u):=by
 intro z
 rw[List.filter_append,List.filter_append]
 by_cases hu:u.filter (IB lt z)=[]
 ·rw[hu,List.nil_append,List.append_nil]
 ·have hv:v.filter (IB lt z)=[]:=by
   rw[List.filter_eq_nil_iff]
   intro y hy hzy
   obtain⟨x,hx⟩:=List.exists_mem_of_ne_nil _ hu
   obtain⟨hx1,hzx⟩:=List.mem_filter.1 hx
   have hyx:=h x hx1 y hy
   simp only[IB,Bool.and_eq_true,Bool.not_eq_true'] at hzx hzy
   rw[W.neg y z x hzy.2 hzx.1] at hyx;cases hyx
  rw[hv,List.nil_append,List.append_nil]
theorem ly.app{a b:List α}(h1:ly lt a)(h2:ly lt b)(h:∀x∈a,∀y∈b,lt y x=false):ly lt (a++b):=List.pairwise_append.2 ⟨h1,h2,h⟩
theorem EE(W:WO lt):∀(a b:List α),ly lt a→ly lt b→CE lt a b→a=b
 |[],[],_,_,_=>rfl
 |[],y::b,_,_,h=>by have:=(CE.mem W h.symm (x:=y) (by simp));cases this
 |x::a,[],_,_,h=>by have:=(CE.mem W h (x:=x) (by simp));cases this
 |x::a,y::b,ha,hb,h=>by
  have hxm:=CE.mem W h (x:=x) (by simp)
  have hym:=CE.mem W h.symm (x:=y) (by simp)
  have h1:lt x y=false:=by
   rcases List.mem_cons.1 hxm with rfl|hm
   ·exact W.irr _
   ·exact(List.pairwise_cons.1 hb).1 x hm
  have h2:lt y x=false:=by
   rcases List.mem_cons.1 hym with rfl|hm
   ·exact W.irr _
   ·exact(List.pairwise_cons.1 ha).1 y hm
  have e1:IB lt x y=true:=by unfold IB;rw[h1,h2];rfl
  have hx:=h x
  rw[List.filter_cons,List.filter_cons,if_pos (BQ W x),if_pos e1] at hx
  have hxy:x=y:=(List.cons.inj hx).1
  subst hxy
  have ht:CE lt a b:=fun z=>by
   have hz:=h z
   rw[List.filter_cons,List.filter_cons] at hz
   by_cases hc:IB lt z x=true
   ·rw[if_pos hc,if_pos hc] at hz;exact(List.cons.inj hz).2
   ·rw[if_neg hc,if_neg hc] at hz;exact hz
  rw[EE W a b (List.pairwise_cons.1 ha).2 (List.pairwise_cons.1 hb).2 ht]
def jC(lt:α→α→Bool)(x:α):List α→List α
 |[]=>[x]
 |y::r=>if lt x y=true then x::y::r else y::jC lt x r
def cE(lt:α→α→Bool)(l:List α):List α:=l.foldl (fun a x=>jC lt x a) []
theorem Bw{x z:α}:∀{l:List α},z∈jC lt x l→z=x∨z∈l
 |[],h=>.inl (List.mem_singleton.1 h)
 |y::r,h=>by
  unfold jC at h
  split at h
  ·rcases List.mem_cons.1 h with rfl|h
   ·exact .inl Z
   ·exact .inr h
  ·rcases List.mem_cons.1 h with rfl|h
   ·exact .inr (by simp)
   ·rcases Bw h with h|h
    ·exact .inl h
    ·exact .inr (List.mem_cons_of_mem _ h)
theorem Bu(W:WO lt)(x:α):∀(l:List α),ly lt l→ly lt (jC lt x l)
 |[],_=>List.pairwise_singleton _ _
 |y::r,h=>by
  obtain⟨h1,h2⟩:=List.pairwise_cons.1 h
  unfold jC
  split
  ·rename_i hc
   refine List.pairwise_cons.2 ⟨fun z hz=>?_,h⟩
   rcases List.mem_cons.1 hz with rfl|hz
   ·exact W.asym _ _ hc
   ·cases hzx:lt z x with
    |false=>rfl
    |true=>exact absurd (h1 z hz) (by rw[W.trans z x y hzx hc];decide)
  ·rename_i hc
   refine List.pairwise_cons.2 ⟨fun z hz=>?_,Bu W x r h2⟩
   rcases Bw hz with rfl|hz
   ·simpa using hc
   ·exact h1 z hz
theorem E6(W:WO lt)(x:α):∀(l:List α),ly lt l→CE lt (l++[x]) (jC lt x l)
 |[],_=>CE.refl _
 |y::r,h=>by
  obtain⟨h1,h2⟩:=List.pairwise_cons.1 h
  unfold jC
  split
  ·rename_i hc
   refine CE.swap W (y::r) [x] (fun z hz q hq=>?_)
   rw[List.mem_singleton.1 hq]
   rcases List.mem_cons.1 hz with rfl|hz
   ·exact hc
   ·cases hxz:lt x z with
    |true=>rfl
    |false=>rw[W.neg x z y hxz (h1 z hz)] at hc;cases hc
  ·exact(CE.refl [y]).app (E6 W x r h2)
theorem vh(W:WO lt):∀(l a:List α),ly lt a→ly lt (l.foldl (fun a x=>jC lt x a) a)∧CE lt (a++l) (l.foldl (fun a x=>jC lt x a) a)
 |[],a,h=>⟨h,by rw[List.append_nil];exact CE.refl a⟩
 |x::l,a,h=>by
  obtain⟨i1,i2⟩:=vh W l (jC lt x a) (Bu W x a h)
  refine⟨i1,CE.trans ?_ i2⟩
  have:=(E6 W x a h).app (CE.refl (lt:=lt) l)
  rw[List.append_assoc] at this
  exact this
theorem ip(W:WO lt)(l:List α):ly lt (cE lt l):=(vh W l [] List.Pairwise.nil).1
theorem lQ(W:WO lt)(l:List α):CE lt l (cE lt l):=(vh W l [] List.Pairwise.nil).2
theorem oU(W:WO lt){l a:List α}(h1:ly lt a)(h2:CE lt l a):a=cE lt l:=EE W _ _ h1 (ip W l) (h2.symm.trans (lQ W l))
theorem EF(W:WO lt){u:List α}{k:Nat}(h:ly lt u)(hk:k<u.length){x:α}(hx:lt u[k] x=true):∀y∈u.take (k+1),lt y x=true:=by
 intro y hy
 obtain⟨i,hi,rfl⟩:=List.getElem_of_mem hy
 rw[List.getElem_take]
 rw[List.length_take] at hi
 rcases Nat.lt_or_ge i k with h1|h1
 ·have:=List.pairwise_iff_getElem.1 h i k (by omega) hk h1
  cases hyx:lt u[i] x with
  |true=>rfl
  |false=>rw[W.neg u[k] u[i] x this hyx] at hx;cases hx
 ·have:i=k:=by omega
  subst this;exact hx
theorem vf(W:WO lt){u:List α}{k:Nat}(h:ly lt u)(hk:k<u.length){x:α}(hx:lt u[k] x=false):∀y∈u.drop k,lt y x=false:=by
 intro y hy
 obtain⟨i,hi,rfl⟩:=List.getElem_of_mem hy
 rw[List.getElem_drop]
 rw[List.length_drop] at hi
 rcases Nat.eq_zero_or_pos i with h1|h1
 ·subst h1;exact hx
 ·have:=List.pairwise_iff_getElem.1 h k (k+i) hk (by omega) (by omega)
  exact W.neg _ _ _ this hx
theorem Ap(W:WO lt){u:List α}{k:Nat}(h:ly lt u)(hk:k<u.length){x:α}(hx:lt x u[k]=false):∀y∈u.take (k+1),lt x y=false:=by
 intro y hy
 obtain⟨i,hi,rfl⟩:=List.getElem_of_mem hy
 rw[List.getElem_take]
 rw[List.length_take] at hi
 rcases Nat.lt_or_ge i k with h1|h1
 ·have:=List.pairwise_iff_getElem.1 h i k (by omega) hk h1
  exact W.neg _ _ _ hx this
 ·have:i=k:=by omega
  subst this;exact hx
theorem FB(W:WO lt){u:List α}{k:Nat}(h:ly lt u)(hk:k<u.length){x:α}(hx:lt x u[k]=true):∀y∈u.drop k,lt x y=true:=by
 intro y hy
 obtain⟨i,hi,rfl⟩:=List.getElem_of_mem hy
 rw[List.getElem_drop]
 rw[List.length_drop] at hi
 rcases Nat.eq_zero_or_pos i with h1|h1
 ·subst h1;exact hx
 ·have:=List.pairwise_iff_getElem.1 h k (k+i) hk (by omega) (by omega)
  cases hxy:lt x u[k+i] with
  |true=>rfl
  |false=>rw[W.neg x _ _ hxy this] at hx;cases hx
theorem ly.take{l:List α}(h:ly lt l)(n:Nat):ly lt (l.take n):=List.Pairwise.sublist (List.take_sublist n l) h
theorem ly.drop{l:List α}(h:ly lt l)(n:Nat):ly lt (l.drop n):=List.Pairwise.sublist (List.drop_sublist n l) h
theorem Bc(W:WO lt){x:α}{v:List α}{k:Nat}(h:ly lt v)(hk:k≤v.length)(h1:k=0∨∃(h:k - 1<v.length),lt v[k - 1] x=true)(h2:k=v.length∨∃(h:k<v.length),lt v[k] x=false):
 ly lt (v.take k++[x]++v.drop k)∧CE lt ([x]++v) (v.take k++[x]++v.drop k):=by
 have hlow:∀y∈v.take k,lt y x=true:=by
  rcases h1 with rfl|⟨hb,hl⟩
  ·intro y hy;cases hy
  ·rcases Nat.eq_zero_or_pos k with h0|h0
   ·subst h0;intro y hy;cases hy
   ·have:=EF W h hb hl
    rwa [show k - 1+1=k by omega] at this
 have hhigh:∀y∈v.drop k,lt y x=false:=by
  rcases h2 with rfl|⟨hb,hl⟩
  ·intro y hy;rw[List.drop_length] at hy;cases hy
  ·exact vf W h hb hl
 refine⟨ly.app (ly.app (h.take k) (List.pairwise_singleton _ _) (fun y hy z hz=>?_)) (h.drop k) (fun y hy z hz=>?_),?_⟩
 ·rw[List.mem_singleton.1 hz];exact W.asym _ _ (hlow y hy)
 ·rcases List.mem_append.1 hy with hy|hy
  ·have hp:=h
   rw[←List.take_append_drop k v] at hp
   exact(List.pairwise_append.1 hp).2.2 y hy z hz
  ·rw[List.mem_singleton.1 hy];exact hhigh z hz
 ·have:=(CE.swap W [x] (v.take k) (fun a ha b hb=>by rw[List.mem_singleton.1 ha];exact hlow b hb)).app (CE.refl (lt:=lt) (v.drop k))
  rw[List.append_assoc,List.take_append_drop] at this
  exact this
theorem Bb(W:WO lt){x:α}{u:List α}{k:Nat}(h:ly lt u)(hk:k≤u.length)(h1:k=0∨∃(h:k - 1<u.length),lt x u[k - 1]=false)(h2:k=u.length∨∃(h:k<u.length),lt x u[k]=true):
 ly lt (u.take k++[x]++u.drop k)∧CE lt (u++[x]) (u.take k++[x]++u.drop k):=by
 have hlow:∀y∈u.take k,lt x y=false:=by
  rcases h1 with rfl|⟨hb,hl⟩
  ·intro y hy;cases hy
  ·rcases Nat.eq_zero_or_pos k with h0|h0
   ·subst h0;intro y hy;cases hy
   ·have:=Ap W h hb hl
    rwa [show k - 1+1=k by omega] at this
 have hhigh:∀y∈u.drop k,lt x y=true:=by
  rcases h2 with rfl|⟨hb,hl⟩
  ·intro y hy;rw[List.drop_length] at hy;cases hy
  ·exact FB W h hb hl
 refine⟨ly.app (ly.app (h.take k) (List.pairwise_singleton _ _) (fun y hy z hz=>?_)) (h.drop k) (fun y hy z hz=>?_),?_⟩
 ·rw[List.mem_singleton.1 hz];exact hlow y hy
 ·rcases List.mem_append.1 hy with hy|hy
  ·have hp:=h
   rw[←List.take_append_drop k u] at hp
   exact(List.pairwise_append.1 hp).2.2 y hy z hz
  ·rw[List.mem_singleton.1 hy];exact W.asym _ _ (hhigh z hz)
 ·have:=(CE.refl (lt:=lt) (u.take k)).app (CE.swap W (u.drop k) [x] (fun a ha b hb=>by rw[List.mem_singleton.1 hb];exact hhigh a ha))
  rw[←List.append_assoc,List.take_append_drop,←List.append_assoc] at this
  exact this
theorem zf(W:WO lt){u1 u2 v1 v2 w1 w2:List α}(hu:ly lt (u1++u2))(hv:ly lt (v1++v2))(h1:∀x∈u2,∀y∈v1,lt y x=true)(h2:∀x∈u1,∀y∈v2,lt y x=false)
 (s1:ly lt w1)(c1:CE lt (u1++v1) w1)(s2:ly lt w2)(c2:CE lt (u2++v2) w2):ly lt (w1++w2)∧CE lt ((u1++u2)++(v1++v2)) (w1++w2):=by
 have hu3:=(List.pairwise_append.1 hu).2.2
 have hv3:=(List.pairwise_append.1 hv).2.2
 refine⟨ly.app s1 s2 (fun x hx y hy=>?_),?_⟩
 ·have hx:=CE.mem W c1.symm hx
  have hy:=CE.mem W c2.symm hy
  rcases List.mem_append.1 hx with hx|hx<;>rcases List.mem_append.1 hy with hy|hy
  ·exact hu3 x hx y hy
  ·exact h2 x hx y hy
  ·exact W.asym _ _ (h1 y hy x hx)
  ·exact hv3 x hx y hy
 ·have a:=CE.mid (lt:=lt) u1 v2 (CE.swap W u2 v1 (fun x hx y hy=>h1 x hx y hy))
  have b:=c1.app c2
  refine CE.trans ?_ (CE.trans a ?_)
  ·rw[show (u1++u2)++(v1++v2)=u1++(u2++v1)++v2 by simp only[List.append_assoc]];exact CE.refl _
  ·rw[show u1++(v1++u2)++v2=(u1++v1)++(u2++v2) by simp only[List.append_assoc]];exact b
end
theorem EK{α:Type}(p:List α)(x y:α)(s:List α):(p++x::s).set p.length y=p++y::s:=by
 rw[List.set_append_right _ _ (Nat.le_refl _),Nat.sub_self,List.set_cons_zero]
theorem E8{α:Type}(p:List α)(x:α)(s:List α):(p++x::s)[p.length]?=some x:=by
 rw[List.getElem?_append_right (Nat.le_refl _),Nat.sub_self];rfl
end Go.Proofs.YtginkbjclkdglaaGreat
