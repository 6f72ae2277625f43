/- What was written is read again: level.Bytes and level.Read, in plain Lean. -/
import Derived.Test.YtginkbjclkdglaaGreatL3Z
import Derived.Test.YtginkbjclkdglaaGreatKFZ
import Derived.Test.YtginkbjclkdglaaGreatKH4Z
import Derived.Test.YtginkbjclkdglaaGreatDK3Z
import Derived.Test.YtginkbjclkdglaaGreatS2Z
import Derived.Test.YtginkbjclkdglaaGreatDK5Z
import Derived.Test.YtginkbjclkdglaaGreatJ1
set_option maxHeartbeats 8000000
set_option maxRecDepth 100000
namespace Go.Proofs.YtginkbjclkdglaaGreat
open Go Go.RowKit
theorem nk(r:RS)(he:r.e=0)(n:Nat)(hn:n<9223372036854775808)(t:List UInt8)(h:r.rest=ar n++t):∃r',r.number=(n,r')∧r'.e=0∧r'.rest=t∧r'.s=r.s∧r'.p=r.p+(ar n).length:=by
 refine⟨_,RS.number_reads r he n hn t h,rfl,?_,rfl,rfl⟩
 rw[RS.rest_step];show r.rest.drop _=_;rw[h,List.drop_left]
theorem z7(r:RS)(he:r.e=0)(s:List UInt8)(hs:s.length≤65536)(t:List UInt8)(h:r.rest=gl s++t):∃r',r.text=(s,r')∧r'.e=0∧r'.rest=t∧r'.s=r.s∧r'.p=r.p+(gl s).length:=by
 refine⟨_,RS.text_reads r he s hs t h,rfl,?_,rfl,rfl⟩
 rw[RS.rest_step];show r.rest.drop _=_;rw[h];exact List.drop_left
theorem FV(r:RS)(he:r.e=0)(f:Fl)(hf:M6 f)(t:List UInt8)(h:r.rest=pv f++t):∃r',Mb r=(f,r')∧r'.e=0∧r'.rest=t∧r'.s=r.s∧r'.p=r.p+(pv f).length:=by
 obtain⟨f1,f2,f3,f4,f5,f6,f7,f8⟩:=hf
 unfold pv at h
 simp only[List.append_assoc] at h
 obtain⟨r1,h1,e1,t1,s1,p1⟩:=nk r he _ (by omega) _ h
 obtain⟨r2,h2,e2,t2,s2,p2⟩:=nk r1 e1 _ (by omega) _ t1
 obtain⟨r3,h3,e3,t3,s3,p3⟩:=nk r2 e2 _ (by omega) _ t2
 obtain⟨r4,h4,e4,t4,s4,p4⟩:=z7 r3 e3 _ (by omega) _ t3
 obtain⟨r5,h5,e5,t5,s5,p5⟩:=z7 r4 e4 _ (by omega) _ t4
 refine⟨r5,?_,e5,t5,by rw[s5,s4,s3,s2,s1],?_⟩
 ·unfold Mb
  rw[h1];dsimp only
  rw[h2];dsimp only
  rw[h3];dsimp only
  rw[h4];dsimp only
  rw[h5];dsimp only
  rw[Int.toNat_of_nonneg f1,Int.toNat_of_nonneg f3,Int.toNat_of_nonneg f5]
 ·unfold pv
  simp only[List.length_append]
  omega
theorem va(L:List Fl)(k:Nat)(h:k<L.length):vd (L.drop k)=pv L[k]++vd (L.drop (k+1)):=by
 rw[List.drop_eq_getElem_cons h];rfl
theorem yc(L:List Fl)(hok:∀f∈L,M6 f):∀(m k:Nat),k+m=L.length→∀r:RS,r.e=0→r.rest=vd (L.drop k)→∃r',E0 m r (L.take k)=(r',L)∧r'.e=0∧r'.rest=[]∧r'.s=r.s∧r'.p=r.p+(vd (L.drop k)).length
 |0,k,h,r,he,hr=>by
  have hd:L.drop k=[]:=List.drop_eq_nil_iff.2 (by omega)
  rw[hd] at hr ⊢
  exact⟨r,by rw[show k=L.length by omega,List.take_length];rfl,he,hr,rfl,rfl⟩
 |m+1,k,h,r,he,hr=>by
  have hk:k<L.length:=by omega
  rw[va L k hk] at hr
  obtain⟨r1,h1,e1,t1,s1,p1⟩:=FV r he L[k] (hok _ (List.getElem_mem hk)) _ hr
  obtain⟨r2,h2,e2,t2,s2,p2⟩:=yc L hok m (k+1) (by omega) r1 e1 t1
  refine⟨r2,?_,e2,t2,by rw[s2,s1],?_⟩
  ·rw[E0,h1]
   dsimp only
   rw[if_neg (fun n=>n e1),←List.take_succ_eq_append_getElem hk]
   exact h2
  ·rw[va L k hk,List.length_append];omega
theorem GV(T:List UInt8):(bo T).length=8+T.length:=by
 unfold bo;rw[List.length_append,List.length_append,pp,pk]
theorem HZ{s:List UInt8}{t:List UInt8}{sz nx lg c:Nat}{q1 q2 r0 r:RS}{l:List Fl}(h:cN s=(t,sz,0))(hsz:sz=s.length)(h1:(RS.open t).number=(nx,q1))(h2:q1.number=(lg,q2))(h3:q2.below 1001=(c,r0))(h4:E0 c r0 []=(r,l))(hd:r.done=0)
 (hk:bT ⟨nx,lg,l⟩=0):t9 s=(⟨nx,lg,l⟩,0):=by
 unfold t9
 rw[h]
 dsimp only
 rw[if_neg (fun n=>n Z),if_neg (fun n=>n hsz),h1]
 dsimp only
 rw[h2]
 dsimp only
 rw[h3]
 dsimp only
 rw[h4]
 dsimp only
 rw[if_neg (fun n=>n hd),if_neg (fun n=>n hk)]
theorem Dr(s:iH)(h0:bT s=0)(hl:s.fs.length≤250):t9 (bo (iK s s.fs.length))=(s,0):=by
 obtain⟨n1,n2,n3,n4,hok⟩:=nu h0
 have hTl:=jT h0 hl s.fs.length (Nat.le_refl _)
 have hT:iK s s.fs.length=ar s.next.toNat++(ar s.log.toNat++(ar s.fs.length++vd s.fs)):=by
  unfold iK JU
  rw[List.take_length];simp only[List.append_assoc]
 have ho:RS.open (iK s s.fs.length)=⟨iK s s.fs.length,0,0⟩:=by unfold RS.open;rw[if_neg (by omega)]
 have hw:=lR (iK s s.fs.length) [] (by omega)
 rw[List.append_nil] at hw
 obtain⟨r1,h1,e1,t1,s1,p1⟩:=nk ⟨iK s s.fs.length,0,0⟩ Z s.next.toNat (by omega) _ (show RS.rest ⟨iK s s.fs.length,0,0⟩=_ from hT)
 obtain⟨r2,h2,e2,t2,s2,p2⟩:=nk r1 e1 _ (by omega) _ t1
 obtain⟨r3,h3,e3,t3,s3,p3⟩:=nk r2 e2 _ (by omega) _ t2
 obtain⟨r4,h4,e4,t4,s4,p4⟩:=yc s.fs hok s.fs.length 0 (by omega) r3 e3 t3
 have hb:r2.below 1001=(s.fs.length,r3):=by
  unfold RS.below;rw[h3,if_neg (by show ¬ (1001:Int)≤(s.fs.length:Int);omega)]
 have hd:r4.done=0:=by
  have hlen:=congrArg List.length t4
  rw[RS.rest_len,List.length_nil] at hlen
  unfold RS.done
  rw[if_neg (fun h=>by omega)]
  exact e4
 have hs:(⟨(s.next.toNat:Nat),(s.log.toNat:Nat),s.fs⟩:iH)=s:=by
  rw[Int.toNat_of_nonneg n1,Int.toNat_of_nonneg n3]
 have:=HZ hw (GV _).symm (by rw[ho];exact h1) h2 hb h4 hd (by rw[hs];exact h0)
 rw[this,hs]
set_option maxHeartbeats 4000000
theorem get_none{D:ez}{nm:List UInt8}(h:D.get nm=none):nm∉D.fs.map (·.nm):=fun hm=>by
 obtain⟨f,hf,hn⟩:=List.mem_map.1 hm
 exact absurd (beq_iff_eq.2 hn) (List.find?_eq_none.1 h f hf)
theorem A4{l s r:List bZ}{f:bZ}(hst:l=s++f::r)(nd:(l.map (·.nm)).Nodup):(∀g∈s,g.nm≠f.nm)∧(∀g∈r,g.nm≠f.nm):=by
 subst hst
 rw[List.map_append,List.map_cons] at nd
 have h1:=List.nodup_append.1 nd
 refine⟨fun g hg he=>h1.2.2 g.nm (List.mem_map.2 ⟨g,hg,rfl⟩) f.nm (List.mem_cons_self ..) he,fun g hg he=>(List.nodup_cons.1 h1.2.1).1 (List.mem_map.2 ⟨g,hg,he⟩)⟩
theorem Gd{l s r:List bZ}{f:bZ}{u:bZ→bZ}(hst:l=s++f::r)(nd:(l.map (·.nm)).Nodup):l.map (fun g=>if g.nm=f.nm then u g else g)=s++u f::r:=by
 obtain⟨h1,h2⟩:=A4 hst nd
 rw[hst,List.map_append,List.map_cons,if_pos Z,j4 (fun g hg=>if_neg (h1 g hg)),j4 (fun g hg=>if_neg (h2 g hg))]
theorem yH{D:ez}{nm b:List UInt8}{q:Nat}(ok:D.ok)(hE:appE D nm b≠10∨D.dead=false)(h:¬ (D.dead=true∨fg nm=false∨D.room - (D.used:Int)<b.length∨(D.get nm=none∧4096≤D.fs.length))):
 (D.get nm=none∧uw D.fs D.clk q nm b=D.fs++[⟨nm,q,D.clk,b,0⟩])∨∃s f r,D.get nm=some f∧f.nm=nm∧D.fs=s++f::r∧uw D.fs D.clk q nm b=s++⟨f.nm,f.blk,f.born,f.b++b,f.sure⟩::r:=by
 cases hg:D.get nm with
 |none=>
  refine .inl ⟨rfl,?_⟩
  have hg2:D.fs.find? (fun f=>f.nm==nm)=none:=hg
  unfold uw
  rw[hg2]
 |some f=>
  obtain⟨hm,rfl⟩:=kF hg
  obtain⟨s,r,hst⟩:=List.append_of_mem hm
  refine .inr ⟨s,f,r,rfl,rfl,hst,?_⟩
  have hg2:D.fs.find? (fun g=>g.nm==f.nm)=some f:=hg
  unfold uw
  rw[hg2]
  exact Gd (u:=fun g=>⟨g.nm,g.blk,g.born,g.b++b,g.sure⟩) hst ok.nd
theorem sy(a b:List bZ):fJ (a++b)=fJ a+fJ b:=by unfold fJ;rw[List.map_append,List.sum_append]
theorem sq{D:ez}{nm b:List UInt8}{q:Nat}(ok:D.ok):(fI D nm b q).ok∧(fI D nm b q).used≤max D.used 1099511627776∧(fI D nm b q).room=D.room∧(fI D nm b q).used≤D.used+b.length∧(fI D nm b q).fs.length≤D.fs.length+1:=by
 unfold fI
 by_cases hc:D.dead=true∨fg nm=false∨D.room - (D.used:Int)<b.length∨(D.get nm=none∧4096≤D.fs.length)
 ·rw[if_pos hc];exact⟨ok,by omega,rfl,by omega,by omega⟩
 rw[if_neg hc]
 have hd:D.dead=false:=by cases h:D.dead with|false=>rfl|true=>exact absurd (.inl h) hc
 have hgd:fg nm=true:=by cases h:fg nm with|true=>rfl|false=>exact absurd (.inr (.inl h)) hc
 have hrm:(D.used:Int)+b.length≤D.room:=by
  by_cases h:D.room - (D.used:Int)<b.length
  ·exact absurd (.inr (.inr (.inl h))) hc
  ·omega
 have hro:=ok.room
 have hnl:nm.length≤100:=by unfold fg at hgd;simp at hgd;exact hgd.2
 rcases yH (q:=q) ok (.inr hd) hc with ⟨hg,hf⟩|⟨s,f,r,hg,hn,hst,hf⟩
 ·have hu:fJ (D.fs++[⟨nm,q,D.clk,b,0⟩])=D.used+b.length:=by rw[sy];rfl
  rw[hf,if_pos hg]
  refine⟨⟨?_,?_,?_,?_,?_,hro⟩,?_,rfl,?_,?_⟩
  ·show (List.map bZ.nm (D.fs++[_])).Nodup
   rw[List.map_append]
   exact List.nodup_append.2 ⟨ok.nd,List.nodup_cons.2 ⟨by simp,List.nodup_nil⟩,fun a ha c hcm he=>by
    rw[List.mem_singleton.1 hcm] at he;subst he;exact get_none hg ha⟩
  ·show (List.map bZ.born (D.fs++[_])).Nodup
   rw[List.map_append]
   exact List.nodup_append.2 ⟨ok.bn,List.nodup_cons.2 ⟨by simp,List.nodup_nil⟩,fun a ha c hcm he=>by
    rw[List.mem_singleton.1 hcm] at he;subst he
    obtain⟨g,hgm,hgb⟩:=List.mem_map.1 ha
    have:=ok.lt g hgm
    have hgb:g.born=D.clk:=hgb
    omega⟩
  ·intro g hgm
   show g.born<D.clk+1
   rcases List.mem_append.1 hgm with h|h
   ·exact Nat.lt_succ_of_lt (ok.lt g h)
   ·rw[List.mem_singleton.1 h];exact Nat.lt_succ_self _
  ·intro g hgm
   rcases List.mem_append.1 hgm with h|h
   ·exact ok.nl g h
   ·rw[List.mem_singleton.1 h];exact hnl
  ·intro g hgm
   rcases List.mem_append.1 hgm with h|h
   ·exact ok.su g h
   ·rw[List.mem_singleton.1 h];exact Nat.zero_le _
  ·show fJ _≤_
   rw[hu];omega
  ·show fJ _≤_
   rw[hu];exact Nat.le_refl _
  ·show (D.fs++[_]).length≤_
   rw[List.length_append];exact Nat.le_refl _
 ·have hu:fJ (s++(⟨f.nm,f.blk,f.born,f.b++b,f.sure⟩:bZ)::r)=D.used+b.length:=by
   unfold ez.used
   rw[hst,sy,sy,iX,iX,List.length_append];omega
  rw[hf,if_neg (by rw[hg];exact fun h=>by cases h)]
  have hnm:(s++(⟨f.nm,f.blk,f.born,f.b++b,f.sure⟩:bZ)::r).map (·.nm)=D.fs.map (·.nm):=by rw[hst,List.map_append,List.map_append];rfl
  have hbn:(s++(⟨f.nm,f.blk,f.born,f.b++b,f.sure⟩:bZ)::r).map (·.born)=D.fs.map (·.born):=by rw[hst,List.map_append,List.map_append];rfl
  have hall:∀g∈(s++(⟨f.nm,f.blk,f.born,f.b++b,f.sure⟩:bZ)::r),g.born<D.clk∧g.nm.length≤100∧g.sure≤g.b.length:=by
   intro g hgm
   have hof:∀g∈D.fs,g.born<D.clk∧g.nm.length≤100∧g.sure≤g.b.length:=fun g h=>⟨ok.lt g h,ok.nl g h,ok.su g h⟩
   rw[hst] at hof
   rcases List.mem_append.1 hgm with h|h
   ·exact hof g (List.mem_append_left _ h)
   rcases List.mem_cons.1 h with h|h
   ·have:=hof f (List.mem_append_right _ (List.mem_cons_self ..))
    subst h
    refine⟨this.1,this.2.1,?_⟩
    show f.sure≤(f.b++b).length
    rw[List.length_append];omega
   ·exact hof g (List.mem_append_right _ (List.mem_cons_of_mem _ h))
  refine⟨⟨?_,?_,fun g hg=>(hall g hg).1,fun g hg=>(hall g hg).2.1,fun g hg=>(hall g hg).2.2,hro⟩,?_,rfl,?_,?_⟩
  ·show (List.map _ _).Nodup
   rw[hnm];exact ok.nd
  ·show (List.map _ _).Nodup
   rw[hbn];exact ok.bn
  ·show fJ _≤_
   rw[hu];omega
  ·show fJ _≤_
   rw[hu];exact Nat.le_refl _
  ·show (s++_::r).length≤_
   rw[hst,List.length_append,List.length_append,List.length_cons,List.length_cons];omega
set_option maxHeartbeats 16000000
def lU:Nat→List UInt8→List (List UInt8)×Nat
 |0,_=>([],0)
 |k+1,s=>if (cN s).2.2=0 then ((cN s).1::(lU k (s.drop (cN s).2.1)).1,(cN s).2.1+(lU k (s.drop (cN s).2.1)).2) else ([],0)
def vq(s:List UInt8):List (List UInt8)×Nat:=lU (s.length+1) s
theorem Au{s:List UInt8}(h:(cN s).2.2=0):8≤(cN s).2.1∧(cN s).2.1≤s.length∧(cN s).1.length≤s.length:=by
 by_cases h8:s.length<8
 ·rw[mF h8] at h;cases h
 ·obtain⟨c0,c1,c2,c3,c4,c5,c6,c7,r,rfl⟩:=IH h8
  have hso:cN (c0::c1::c2::c3::c4::c5::c6::c7::r)=if c0.toNat≠94∨65536<n3 c1 c2 c3 then ([],0,4) else if r.length<n3 c1 c2 c3 then ([],0,5)
   else if xl ([c0,c1,c2,c3]++r.take (n3 c1 c2 c3))=n4 c4 c5 c6 c7 then (r.take (n3 c1 c2 c3),8+n3 c1 c2 c3,0) else ([],0,6):=rfl
  rw[hso] at h ⊢
  by_cases h1:c0.toNat≠94∨65536<n3 c1 c2 c3
  ·rw[if_pos h1] at h;exact absurd h (by decide)
  by_cases h2:r.length<n3 c1 c2 c3
  ·rw[if_neg h1,if_pos h2] at h;exact absurd h (by decide)
  by_cases h3:xl ([c0,c1,c2,c3]++r.take (n3 c1 c2 c3))=n4 c4 c5 c6 c7
  ·rw[if_neg h1,if_neg h2,if_pos h3]
   refine⟨by show 8≤8+_;omega,?_,?_⟩
   ·show 8+n3 c1 c2 c3≤_
    simp only[List.length_cons];omega
   ·show (r.take _).length≤_
    rw[List.length_take];simp only[List.length_cons];omega
  ·rw[if_neg h1,if_neg h2,if_neg h3] at h;exact absurd h (by decide)
theorem FK(s:List UInt8)(hs:s.length≤1000000000):aQ Tryz.prog 71 [.s s] [] (fun v os=>v= .tup [.sl 1 ((vq s).1.map AV.s),.i .i64 ((vq s).2:Nat)]∧os=[]):=by
 refine aA ab [] Tryz.func71 Z Tryz.ntmps71 aN Z Z (fun C=>?_) Z
 generalize hA:vq s=A
 repeat' (first|refine ae ?_|refine aj ?_|refine aa ?_|refine ac (ax ?_)|refine aU ab (fun _=>?_))
 refine aO (fun q:Nat×List (List UInt8)×Nat×Value=>⟨28,[(5,.i .i64 q.1),(4,.own 4 q.2.2.2),(0,.s s)],[(4,.row q.2.2.2 9 1 (q.2.1.map AV.s))]⟩) (fun q=>q.1≤s.length∧s.length - q.1<q.2.2.1∧8*q.2.1.length≤q.1∧A=(q.2.1++(lU q.2.2.1 (s.drop q.1)).1,q.1+(lU q.2.2.1 (s.drop q.1)).2)) (fun q=>q.2.2.1) [] (0,[],s.length+1,.slice none 0 0) ⟨Nat.zero_le _,by dsimp only;omega,Nat.zero_le _,by show A=_;rw[←hA];unfold vq;simp⟩ ?_ ?_
 ·exact⟨rfl,⟨ai Z,dp,cY Z,J⟩,cr.none .nil⟩
 rintro⟨at',out,k,v⟩ ⟨ha,hk,ho,hAq⟩
 dsimp only at ha hk ho hAq ⊢
 obtain⟨k,rfl⟩:∃k',k=k'+1:=⟨k - 1,by omega⟩
 have hdl:(s.drop at').length=s.length - at':=List.length_drop
 have hsp:=lS (s.drop at') (by omega)
 have hok:=@Au (s.drop at')
 have hun:lU (k+1) (s.drop at')=if (cN (s.drop at')).2.2=0 then ((cN (s.drop at')).1::(lU k ((s.drop at').drop (cN (s.drop at')).2.1)).1,(cN (s.drop at')).2.1+(lU k ((s.drop at').drop (cN (s.drop at')).2.1)).2) else ([],0):=rfl
 rw[hun] at hAq
 have htk:AV.s ((s.take s.length).drop at')=AV.s (s.drop at'):=by rw[List.take_length]
 generalize hq:cN (s.drop at')=q at hsp hok hAq
 obtain⟨t,m,e⟩:=q
 dsimp only at hsp hok hAq
 by_cases he:e=0
 ·subst he
  obtain⟨h1,h2,h3⟩:=hok Z
  rw[if_pos Z,List.drop_drop] at hAq
  repeat' (first|refine ae ?_|refine aj ?_|refine aa ?_|refine ac (ax ?_)|refine ac (db ?_)|refine ah (ax ?_)|(refine bc Z Z Z Z ?_ ?_;omega)|refine aU ab (fun _=>?_)|refine aI ab Z Z Z Z Z Z Z Z Z Z Z eo (fun _=>?_)|(refine bH ab Z Z Z Z Z Z Z Z Z (by first|exact J|exact rfl) Z Z (fun _=>rfl) ?_ ?_ (fun _=>?_);(exact dt);(exact dt))|refine aB Z ?_|(refine dK ab Z at' s.length Z Z Z (cn Z Z) da (by omega) (by omega) ?_)|refine au Z hsp ⟨kx htk,J⟩ Z ?_)
  exact⟨(at'+m,out++[t],k,_),[],⟨by show at'+m≤s.length;omega,by show s.length - (at'+m)<k;omega,by show 8*(out++[t]).length≤at'+m;rw[List.length_append,List.length_singleton];omega,by rw[hAq];show _=(out++[t]++_,at'+m+_);rw[List.append_assoc,Nat.add_assoc];rfl⟩,by show k<k+1;omega,rfl,⟨ai (by show (at':Int)+m=((at'+m:Nat):Int);omega),aJ,cY Z,J⟩,cr.cons 4 Z (by show aG _ (HO.row _ _ _ (List.map AV.s out++[AV.s t])) (.row _ _ _ ((out++[t]).map AV.s));rw[List.map_append];exact ak _) .nil⟩
 ·rw[if_neg he] at hAq
  repeat' (first|refine ae ?_|refine aj ?_|refine aa ?_|refine ac (ax ?_)|refine ap (bC ?_)|refine aU ab (fun _=>?_)|(refine bF Z (fun hc=>?_) (fun hc=>?_))<;>try omega|(refine dK ab Z at' s.length Z Z Z (cn Z Z) da (by omega) (by omega) ?_)|refine au Z hsp ⟨kx htk,J⟩ Z ?_)
  rw[List.append_nil,Nat.add_zero] at hAq
  subst hAq
  all_goals
   exact aH [4] [] (.tup [.sl 1 (out.map AV.s),.i .i64 (at':Nat)]) Z (aW (bP (.head _)) (am Z) Z Z) .nil ⟨rfl,rfl⟩
def Dh(x:Nat):AV:=.i .i64 x
theorem sK(bd bm:Nat)(D:ez)(ok:D.ok)(hl:D.fs.length≤1000000):aQ Tryz.prog 69 [.ptr 0 bd [] 0] (dk bd bm D) (fun v os=>v= .sl 1 ((jp (gX D)).map Dh)∧os=dk bd bm D):=by
 have hd:=wn bd bm D ok hl
 have hL:dk bd bm D=[.var bd (.agg [.i .i64 D.room,.own 1 (.map (some bm)),.i .i64 D.fuse,.b D.dead]),.obj bm (cV D.es D.clk),bL (D.fs.map bZ.O)]:=rfl
 have hsl:∀s∈gX D,s.length≤1000000:=fun s h=>by
  unfold gX at h
  split at h
  ·cases h
  ·have h1:s∈D.fs.map (·.nm):=(List.mergeSort_perm _ _).mem_iff.1 h
   obtain⟨f,hf,rfl⟩:=List.mem_map.1 h1
   have:=ok.nl f hf
   omega
 have hll:(gX D).length≤1000000:=by
  unfold gX
  split
  ·exact Nat.zero_le _
  ·unfold jv;rw[List.length_mergeSort,List.length_map];exact hl
 rw[hL] at hd ⊢
 generalize gX D=S at hd hsl hll ⊢
 generalize D.room=rm,D.fuse=fu,D.dead=dd,cV D.es D.clk=mo,D.fs.map bZ.O=fo at hd ⊢
 refine aA ab [(0,.var bd (.agg [.i .i64 rm,.own 1 (.map (some bm)),.i .i64 fu,.b dd])),(1,.obj bm mo),(2,bL fo)] Tryz.func69 Z Tryz.ntmps69 aN Z Z (fun C=>?_) Z
 repeat' (first|refine ae ?_|refine aj ?_|refine aa ?_|refine ac (ax ?_)|refine br Z ab Z Z Z (fun _=>?_)|refine aU ab (fun _=>?_)|refine bk [] [0,1,2] [0,1,2] Z hd ⟨af,J⟩ Z dD Z Z ?_)
 refine aO (fun q:Nat×Value=>⟨24,[(10,.i .i64 q.1),(9,.i .i64 S.length),(8,.sl 1 (S.map AV.s)),(3,.own 3 q.2)],[(0,.var bd (.agg [.i .i64 rm,.own 1 (.map (some bm)),.i .i64 fu,.b dd])),(1,.obj bm mo),(2,bL fo),(3,.row q.2 3 1 ((jp (S.take q.1)).map Dh))]⟩) (fun q=>q.1≤S.length) (fun q=>S.length - q.1) [] (0,.slice none 0 0) (Nat.zero_le _) ?_ ?_
 ·exact⟨rfl,⟨ai Z,ai Z,ay Z,dp,J⟩,az 0 Z (az 1 Z (az 2 Z (cr.none .nil)))⟩
 rintro⟨i,v⟩ hi
 dsimp only at hi ⊢
 have hsgl:(jp (S.take i)).length≤i:=by
  unfold jp
  refine Nat.le_trans (List.length_filterMap_le ..) ?_
  rw[List.length_take];omega
 by_cases hlt:i<S.length
 ·have hn:=Gl S[i] (hsl _ (List.getElem_mem hlt))
  have htk:S.take (i+1)=S.take i++[S[i]]:=by rw[List.take_succ_eq_append_getElem hlt]
  have hsg:jp (S.take (i+1))=jp (S.take i)++jp [S[i]]:=by rw[htk];unfold jp;rw[List.filterMap_append]
  cases hnn:kT S[i] with
  |none=>
   have hI:tc S[i]= -1:=by unfold tc;rw[hnn]
   have hse:jp [S[i]]=[]:=by unfold jp;rw[List.filterMap_cons,hnn];rfl
   rw[hse,List.append_nil] at hsg
   rw[hI] at hn
   repeat' (first|refine ae ?_|refine aj ?_|refine aa ?_|refine ac (ax ?_)|refine ac (db ?_)|refine ah (ax ?_)|(refine bc Z Z Z Z ?_ ?_;omega)|refine aU ab (fun _=>?_)|(refine aK Z ab Z Z Z Z Z Z ?_ (aE ?_) ?_;omega;omega)|refine aB Z ?_|(refine ao Z (fun hc=>?_) (fun hc=>?_))<;>try omega|refine au Z (hn) ⟨aP,J⟩ Z ?_)
   exact⟨(i+1,v),[],by show i+1≤S.length;omega,by show S.length - (i+1)<S.length - i;omega,rfl,⟨ai (by show (i:Int)+1=((i+1:Nat):Int);omega),ai Z,ay Z,aJ,J⟩,az 0 Z (az 1 Z (az 2 Z (cr.cons 3 Z (by rw[hsg];exact ak _) .nil)))⟩
  |some n=>
   have hI:tc S[i]=n:=by unfold tc;rw[hnn]
   have hse:jp [S[i]]=[n]:=by unfold jp;rw[List.filterMap_cons,hnn];rfl
   rw[hse] at hsg
   rw[hI] at hn
   repeat' (first|refine ae ?_|refine aj ?_|refine aa ?_|refine ac (ax ?_)|refine ac (db ?_)|refine ah (ax ?_)|(refine bc Z Z Z Z ?_ ?_;omega)|refine aU ab (fun _=>?_)|(refine aK Z ab Z Z Z Z Z Z ?_ (aE ?_) ?_;omega;omega)|refine aI ab Z Z Z Z Z Z Z Z Z Z Z eo (fun _=>?_)|(refine bH ab Z Z Z Z Z Z Z Z Z (by first|exact J|exact rfl) Z Z (fun _=>rfl) ?_ ?_ (fun _=>?_);(exact dt);(exact dt))|refine aR Z ?_|(refine ao Z (fun hc=>?_) (fun hc=>?_))<;>try omega|refine au Z (hn) ⟨aP,J⟩ Z ?_)
   exact⟨(i+1,_),[],by show i+1≤S.length;omega,by show S.length - (i+1)<S.length - i;omega,rfl,⟨ai (by show (i:Int)+1=((i+1:Nat):Int);omega),ai Z,ay Z,aJ,J⟩,az 0 Z (az 1 Z (az 2 Z (cr.cons 3 Z (by rw[hsg,List.map_append];exact ak _) .nil)))⟩
 ·have hS:S.take i=S:=List.take_of_length_le (by omega)
  rw[hS] at hsgl ⊢
  repeat' (first|refine ae ?_|refine aa ?_|refine ac (ax ?_)|refine aw (ax ?_)|refine ap (bC ?_)|refine aU ab (fun _=>?_)|(refine ao Z (fun hc=>?_) (fun hc=>?_))<;>try omega)
  all_goals
   exact aH [3] [(0,_),(1,_),(2,_)] (.sl 1 ((jp S).map Dh)) Z (bX (bP (.head _)) Z) (az 0 Z (az 1 Z (az 2 Z .nil))) ⟨rfl,rfl⟩
theorem xN:∀(k:Nat) (s:List UInt8),8*(lU k s).1.length≤s.length
 |0,s=>by unfold lU;exact Nat.zero_le _
 |k+1,s=>by
  unfold lU
  split
  ·next h=>
   have h1:=Au h
   have h2:=xN k (s.drop (cN s).2.1)
   rw[List.length_drop] at h2
   show 8*(_::_).length≤_
   rw[List.length_cons]
   omega
  ·exact Nat.zero_le _
def ez.byt(D:ez)(nm:List UInt8):List UInt8:=match D.get nm with|some f=>f.b|none=>[]
def qd(D:ez)(fm:Nat)(l:List Nat):List (List UInt8)×Nat:=l.foldl (fun a n=>if n<fm then a else (a.1++(vq (D.byt (ci n))).1,n+1)) ([],fm)
def eC(bd bj now:Nat):HO:=.var bj (.agg [.ptr 0 bd [] 0,.i .i64 now])
theorem Jy{D:ez}(hd:D.dead=false){n:Nat}(h:n∈jp (gX D)):(∃f,D.get (ci n)=some f∧f∈D.fs)∧n<10000000000:=by
 unfold jp at h
 obtain⟨s,hs,hn⟩:=List.mem_filterMap.1 h
 obtain⟨rfl,hlt⟩:=vM hn
 refine⟨?_,hlt⟩
 unfold gX at hs
 rw[if_neg (by rw[hd];decide)] at hs
 have h1:ci n∈D.fs.map (·.nm):=(List.mergeSort_perm _ _).mem_iff.1 hs
 obtain⟨f,hf,hfn⟩:=List.mem_map.1 h1
 cases hg:D.get (ci n) with
 |some g=>exact⟨g,rfl,(kF hg).1⟩
 |none=>
  have:=List.find?_eq_none.1 hg f hf
  exact absurd (beq_iff_eq.2 hfn) this
theorem xx:∀{l:List bZ} {f:bZ},f∈l→f.b.length≤fJ l
 |g::r,f,h=>by
  rw[iX]
  rcases List.mem_cons.1 h with rfl|h
  ·omega
  ·have:=xx h;omega
theorem Ho(l:List (List UInt8)):(jp l).length≤l.length:=List.length_filterMap_le ..
theorem ED{a b i K:Nat}(h1:8*a≤i*K)(h2:8*b≤K):8*(a+b)≤(i+1)*K:=by
 rw[Nat.add_mul i 1 K];omega
theorem Dy(bd bm:Nat)(D:ez)(fm:Nat)(ok:D.ok)(hl:D.fs.length≤100000)(hu:D.used≤100000000)(hfm:fm≤1073741824)(hdd:D.dead=false):aQ Tryz.prog 27 [.ptr 0 bd [] 0,.i .i64 fm] (dk bd bm D) (fun v os=>∃bj,v= .tup [.ptr 3 bj [] 0,.sl 1 ((qd D fm (jp (gX D))).1.map AV.s),.i .i64 0]∧os=dk bd bm D++[eC bd bj (qd D fm (jp (gX D))).2]):=by
 have hsg:=sK bd bm D ok (by omega)
 have hdead:=lK bd D.room D.fuse (.map (some bm)) D.dead
 have hrd:=fun n=>ot bd bm D (ci n) (by omega) (by rw[ji];decide)
 have hmem:=fun n=>@Jy D hdd n
 have hL:dk bd bm D=[.var bd (.agg [.i .i64 D.room,.own 1 (.map (some bm)),.i .i64 D.fuse,.b D.dead]),.obj bm (cV D.es D.clk),bL (D.fs.map bZ.O)]:=rfl
 have hll:(jp (gX D)).length≤100000:=by
  refine Nat.le_trans (Ho _) ?_
  unfold gX
  split
  ·exact Nat.zero_le _
  ·unfold jv;rw[List.length_mergeSort,List.length_map];exact hl
 have hby:∀n,(D.byt (ci n)).length≤100000000:=fun n=>by
  unfold ez.byt
  cases hg:D.get (ci n) with
  |none=>exact Nat.zero_le _
  |some f=>exact Nat.le_trans (xx (kF hg).1) hu
 have hrd2:∀n∈jp (gX D),GP D (ci n)=(D.byt (ci n),0):=fun n hn=>by
  obtain⟨⟨f,hg,_⟩,_⟩:=hmem n hn
  unfold GP ez.byt
  rw[if_neg (by rw[hdd];decide),hg]
 have hlt:∀n∈jp (gX D),n<10000000000:=fun n hn=>(hmem n hn).2
 rw[hL] at hsg hrd ⊢
 rw[hdd] at hdead hsg hrd ⊢
 have hopn:∀(l:List Nat) (n:Nat),qd D fm (l++[n])=if n<fm then qd D fm l else ((qd D fm l).1++(vq (D.byt (ci n))).1,n+1):=fun l n=>by
  unfold qd
  rw[List.foldl_append];rfl
 have hop0:qd D fm []=([],fm):=rfl
 generalize jp (gX D)=L at hsg hll hrd2 hlt ⊢
 refine aA ab [(0,.var bd (.agg [.i .i64 D.room,.own 1 (.map (some bm)),.i .i64 D.fuse,.b false])),(1,.obj bm (cV D.es D.clk)),(2,bL (D.fs.map bZ.O))] Tryz.func27 Z Tryz.ntmps27 aN Z Z (fun C=>?_) Z
 repeat' (first|refine ae ?_|refine aj ?_|refine aa ?_|refine ac (ax ?_)|refine ah (ax ?_)|refine br Z ab Z Z Z (fun _=>?_)|refine aU ab (fun _=>?_)|refine c9 (d:=26) Z Z Z Z (fun b26=>?_)|refine cd ab Z Z Z Z Z Z eo ?_|refine aB Z ?_|(refine ao Z (fun hc=>?_) (fun hc=>?_))<;>try omega|refine bk [] [0] [0] Z hdead ⟨af,J⟩ Z dD Z Z ?_|refine bk [] [0,1,2] [0,1,2] Z hsg ⟨af,J⟩ Z dD Z Z ?_)
 refine aO (fun q:Nat×Value=>⟨63,[(30,.i .i64 q.1),(29,.i .i64 L.length),(28,.sl 1 (L.map Dh)),(8,.own 8 q.2),(7,.ptr 26 b26 [] 0),(0,.ptr 0 bd [] 0),(1,.i .i64 fm)],[(0,.var bd (.agg [.i .i64 D.room,.own 1 (.map (some bm)),.i .i64 D.fuse,.b false])),(1,.obj bm (cV D.es D.clk)),(2,bL (D.fs.map bZ.O)),(26,.var b26 (.agg [.ptr 0 bd [] 0,.i .i64 ((qd D fm (L.take q.1)).2:Nat)])),(8,.row q.2 9 1 ((qd D fm (L.take q.1)).1.map AV.s))]⟩) (fun q=>q.1≤L.length∧8*(qd D fm (L.take q.1)).1.length≤q.1*100000000) (fun q=>L.length - q.1) [] (0,.slice none 0 0) ⟨Nat.zero_le _,by rw[List.take_zero,hop0];exact Nat.zero_le _⟩ ?_ ?_
 ·exact⟨rfl,⟨ai Z,ai Z,ay Z,dp,af,af,ai Z,J⟩,az 0 Z (az 1 Z (az 2 Z (az 26 Z (cr.none .nil))))⟩
 rintro⟨i,v⟩ ⟨hi,hln⟩
 dsimp only at hi hln ⊢
 by_cases hlt2:i<L.length
 ·have htk:L.take (i+1)=L.take i++[L[i]]:=by rw[List.take_succ_eq_append_getElem hlt2]
  have hop1:=hopn (L.take i) L[i]
  rw[←htk] at hop1
  have hnl:=hlt _ (List.getElem_mem hlt2)
  have hr:=hrd L[i]
  rw[hrd2 _ (List.getElem_mem hlt2)] at hr
  have hnm:=pT L[i] hnl
  have hal:=FK (D.byt (ci L[i])) (by have:=hby L[i];omega)
  have hbl:=hby L[i]
  have hsl:=xN ((D.byt (ci L[i])).length+1) (D.byt (ci L[i]))
  have hse:vq (D.byt (ci L[i]))=lU ((D.byt (ci L[i])).length+1) (D.byt (ci L[i])):=rfl
  rw[←hse] at hsl
  generalize vq (D.byt (ci L[i]))=A at hop1 hal hsl
  generalize D.byt (ci L[i])=B at hr hal hbl hsl
  obtain⟨ts,at'⟩:=A
  dsimp only at hop1 hal hsl
  generalize hO:qd D fm (L.take i)=O at hln hop1 ⊢
  obtain⟨out,now⟩:=O
  dsimp only at hln hop1 ⊢
  have hb1:8*out.length≤(i+1)*100000000:=ED (b:=0) hln (Nat.zero_le _)
  have hla:(out++ts).length=out.length+ts.length:=List.length_append
  have hb2:8*(out++ts).length≤(i+1)*100000000:=hla▸ED hln (Nat.le_trans hsl hbl)
  by_cases hf:L[i]<fm
  ·rw[if_pos hf] at hop1
   repeat' (first|refine ae ?_|refine aj ?_|refine aa ?_|refine ac (ax ?_)|refine ac (db ?_)|refine ah (ax ?_)|refine aw (ax ?_)|(refine bc Z Z Z Z ?_ ?_;omega)|refine aU ab (fun _=>?_)|(refine aK Z ab Z Z Z Z Z Z ?_ (aE ?_) ?_;omega;omega)|(refine ao Z (fun hc=>?_) (fun hc=>?_))<;>try omega)
   exact⟨(i+1,v),[],⟨by show i+1≤L.length;omega,by show 8*(qd D fm (L.take (i+1))).1.length≤(i+1)*100000000;rw[hop1];exact hb1⟩,by show L.length - (i+1)<L.length - i;omega,rfl,⟨ai (by show (i:Int)+1=((i+1:Nat):Int);omega),ai Z,ay Z,aJ,af,af,ai Z,J⟩,by rw[hop1];exact az 0 Z (az 1 Z (az 2 Z (az 26 Z (az 8 Z .nil))))⟩
  ·rw[if_neg hf] at hop1
   repeat' (first|refine ae ?_|refine aj ?_|refine aa ?_|refine ac (ax ?_)|refine ac (db ?_)|refine ah (ax ?_)|(refine bc Z Z Z Z ?_ ?_;omega)|refine aU ab (fun _=>?_)|refine aD ab Z Z Z Z Z Z Z ⟨rfl,rfl⟩ Z Z Z Z Z ?_|(refine aK Z ab Z Z Z Z Z Z ?_ (aE ?_) ?_;omega;omega)|(refine bH ab Z Z Z Z Z Z Z Z Z (by first|exact J|exact rfl) Z Z (fun _=>rfl) ?_ ?_ (fun _=>?_);(exact dt);(exact dt))|refine aB Z ?_|(refine ao Z (fun hc=>?_) (fun hc=>?_))<;>try omega|refine bk [] [0,1,2] [0,1,2] Z hr ⟨af,aP,J⟩ Z dD Z Z ?_|refine au Z (hnm) ⟨aP,J⟩ Z ?_|refine au Z (hal) ⟨aP,J⟩ Z ?_)
   exact⟨(i+1,_),[],⟨by show i+1≤L.length;omega,by show 8*(qd D fm (L.take (i+1))).1.length≤(i+1)*100000000;rw[hop1];exact hb2⟩,by show L.length - (i+1)<L.length - i;omega,rfl,⟨ai (by show (i:Int)+1=((i+1:Nat):Int);omega),ai Z,ay Z,aJ,af,af,ai Z,J⟩,by rw[hop1,List.map_append];exact az 0 Z (az 1 Z (az 2 Z (az 26 Z (az 8 Z .nil))))⟩
 ·have hS:L.take i=L:=List.take_of_length_le (by omega)
  rw[hS] at hln ⊢
  repeat' (first|refine ae ?_|refine aa ?_|refine ac (ax ?_)|refine aw (ax ?_)|refine ap (bC ?_)|refine aU ab (fun _=>?_)|(refine ao Z (fun hc=>?_) (fun hc=>?_))<;>try omega)
  all_goals
   exact aH [8] [(0,_),(1,_),(2,_),(3,_)] (.tup [.ptr 3 b26 [] 0,.sl 1 ((qd D fm L).1.map AV.s),.i .i64 0]) Z (dI gK (bP (.head _)) (am Z) Z Z Z) (az 0 Z (az 1 Z (az 2 Z (az 26 Z .nil)))) ⟨b26,rfl,rfl⟩
def GM(D:ez)(now:Nat)(s:List UInt8)(q:Nat):Int:=if 65536<s.length then 2 else if appE D (ci now) (bo s)≠0 then appE D (ci now) (bo s) else Ak (fI D (ci now) (bo s) q) (ci now)
def El(D:ez)(now:Nat)(s:List UInt8)(q:Nat):ez:=if 65536<s.length then D else if appE D (ci now) (bo s)≠0 then fI D (ci now) (bo s) q else oC (fI D (ci now) (bo s) q) (ci now)
theorem mD(s:List UInt8):(bo s).length=s.length+8:=by
 unfold bo
 rw[List.length_append,List.length_append,pk,pp];omega
theorem Gm(bd bm bj:Nat)(D:ez)(now:Nat)(s:List UInt8)(ok:D.ok)(hu:D.used≤1099511627776)(hf:D.fuse<9223372036854775807)(hs:s.length≤1000000000)(hn:now<10000000000):aQ Tryz.prog 44 [.ptr 3 bj [] 0,.s s] (dk bd bm D++[eC bd bj now]) (fun v os=>∃q,v= .i .i64 (GM D now s q)∧os=dk bd bm (El D now s q)++[eC bd bj now]):=by
 have k1:=pM s hs
 have k2:=pT now hn
 have hwl:=mD s
 have k3:=uo bd bm D (ci now) (bo s) ok hu (by rw[ji];decide) (by omega) (by omega)
 have hAo:=fun q=>@sq D (ci now) (bo s) q ok
 have hAf:∀q,(fI D (ci now) (bo s) q).fuse<9223372036854775808:=fun q=>by
  unfold fI
  split
  ·omega
  ·show (fw D.fuse D.dead).2.2.1<_
   unfold fw
   split
   ·show D.fuse<_;omega
   split
   ·show D.fuse<_;omega
   split
   ·show D.fuse - 1<_;omega
   ·show D.fuse<_;omega
 have k4:=fun q=>xE bd bm (fI D (ci now) (bo s) q) (ci now) (hAo q).1 (by have:=(hAo q).2.1;omega) (by rw[ji];decide) (hAf q)
 unfold GM El
 unfold nc at k1
 obtain⟨E,hE⟩:∃E,appE D (ci now) (bo s)=E:=⟨_,rfl⟩
 rw[hE] at k3 ⊢
 clear hAo hAf
 generalize fI D (ci now) (bo s)=A at k3 k4 ⊢
 generalize bo s=W at k1 k3
 have hL:∀D:ez,dk bd bm D=[.var bd (cO bm D),.obj bm (cV D.es D.clk),bL (D.fs.map bZ.O)]:=fun _=>rfl
 have hL4:∀D:ez,dk bd bm D++[eC bd bj now]=[.var bd (cO bm D),.obj bm (cV D.es D.clk),bL (D.fs.map bZ.O),eC bd bj now]:=fun _=>rfl
 simp only[hL4]
 simp only[hL] at k3 k4
 by_cases h1:65536<s.length
 ·rw[if_pos h1] at k1
  simp only[if_pos h1]
  refine aA ab [(0,.var bd (cO bm D)),(1,.obj bm (cV D.es D.clk)),(2,bL (D.fs.map bZ.O)),(3,.var bj (.agg [.ptr 0 bd [] 0,.i .i64 now]))] Tryz.func44 Z Tryz.ntmps44 aN Z Z (fun C=>?_) Z
  repeat' (first|refine ae ?_|refine aa ?_|refine ac (ax ?_)|refine ap (bC ?_)|refine aU ab (fun _=>?_)|refine aR Z ?_|refine au Z (k1) ⟨aP,J⟩ Z ?_)
  all_goals
   exact aH [] [(0,_),(1,_),(2,_),(3,_)] (.i .i64 (2)) Z (bX (am Z) Z) (az 0 Z (az 1 Z (az 2 Z (az 3 Z .nil)))) ⟨0,rfl,rfl⟩
 rw[if_neg h1] at k1
 simp only[if_neg h1]
 by_cases hE0:E=0
 ·subst hE0
  simp only[if_neg (show ¬ ((0:Int)≠0) by decide)]
  refine aA ab [(0,.var bd (cO bm D)),(1,.obj bm (cV D.es D.clk)),(2,bL (D.fs.map bZ.O)),(3,.var bj (.agg [.ptr 0 bd [] 0,.i .i64 now]))] Tryz.func44 Z Tryz.ntmps44 aN Z Z (fun C=>?_) Z
  repeat' (first|refine ae ?_|refine aa ?_|refine ac (ax ?_)|refine ah (ax ?_)|refine ap (bC ?_)|refine aU ab (fun _=>?_)|refine aB Z ?_|refine cg 4 [0,1,2] [23] [] [0,1,2,4,5,6,9,3,7,8,10,11] aN aN aN Z Z Z ?_|refine cg 7 [0,1,2] [37] [] [0,1,2,4,5,6,3,7,8,9,10] aN aN aN Z Z Z ?_|(refine bx [] [0,1,2] [0,1,2] Z k3 ⟨af,aP,aP,J⟩ Z dD Z Z ?_;rintro _ _ ⟨q,rfl,rfl⟩;refine⟨_,rfl,rfl,?_⟩)|refine bk [] [0,1,2] [0,1,2] Z (k4 q) ⟨af,aP,J⟩ Z dD Z Z ?_|refine au Z (k1) ⟨aP,J⟩ Z ?_|refine au Z (k2) ⟨aP,J⟩ Z ?_)
  all_goals
   exact aH [] [(0,_),(1,_),(2,_),(3,_)] (.i .i64 (Ak (A q) (ci now))) Z (bX (am Z) Z) (az 0 Z (az 1 Z (az 2 Z (az 3 Z .nil)))) ⟨q,rfl,rfl⟩
 ·simp only[if_pos hE0]
  refine aA ab [(0,.var bd (cO bm D)),(1,.obj bm (cV D.es D.clk)),(2,bL (D.fs.map bZ.O)),(3,.var bj (.agg [.ptr 0 bd [] 0,.i .i64 now]))] Tryz.func44 Z Tryz.ntmps44 aN Z Z (fun C=>?_) Z
  repeat' (first|refine ae ?_|refine aa ?_|refine ac (ax ?_)|refine ah (ax ?_)|refine ap (bC ?_)|refine aU ab (fun _=>?_)|refine aB Z ?_|(refine bF Z (fun hc=>?_) (fun hc=>?_))<;>try omega|refine cg 4 [0,1,2] [23] [] [0,1,2,4,5,6,9,3,7,8,10,11] aN aN aN Z Z Z ?_|(refine bx [] [0,1,2] [0,1,2] Z k3 ⟨af,aP,aP,J⟩ Z dD Z Z ?_;rintro _ _ ⟨q,rfl,rfl⟩;refine⟨_,rfl,rfl,?_⟩)|refine au Z (k1) ⟨aP,J⟩ Z ?_|refine au Z (k2) ⟨aP,J⟩ Z ?_)
  all_goals
   exact aH [] [(0,_),(1,_),(2,_),(3,_)] (.i .i64 (E)) Z (bX (am Z) Z) (az 0 Z (az 1 Z (az 2 Z (az 3 Z .nil)))) ⟨q,rfl,rfl⟩
theorem Dx(bd bj now:Nat)(hn:now<10000000000):aQ Tryz.prog 46 [.ptr 0 bj [] 0] [eC bd bj now] (fun v os=>v= .i .i64 (now+1:Nat)∧os=[eC bd bj (now+1)]):=by
 refine aA ab [(0,.var bj (.agg [.ptr 0 bd [] 0,.i .i64 now]))] Tryz.func46 Z Tryz.ntmps46 aN Z Z (fun C=>?_) Z
 repeat' (first|refine ae ?_|refine aa ?_|refine ac (ax ?_)|refine ap (bC ?_)|(refine bc Z Z Z Z ?_ ?_;omega)|refine aU ab (fun _=>?_)|refine aD ab Z Z Z Z Z Z Z ⟨rfl,rfl⟩ Z Z Z Z Z ?_)
 all_goals exact bp Z Z Z [] [(0,_)] (am Z) (az 0 Z .nil) ⟨rfl,rfl⟩ _ (.inl Z)
end Go.Proofs.YtginkbjclkdglaaGreat
