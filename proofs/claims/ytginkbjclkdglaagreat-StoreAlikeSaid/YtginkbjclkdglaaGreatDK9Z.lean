/- disk.Remove and disk.Rename of a disk that lives, by rules. -/
import Derived.Test.YtginkbjclkdglaaGreatDK3Z
import Derived.Test.YtginkbjclkdglaaGreatV44Z
import Derived.Test.YtginkbjclkdglaaGreatDV0Z
import Derived.Test.YtginkbjclkdglaaGreatKFZ
import Derived.Test.YtginkbjclkdglaaGreatT7Z
import Derived.Test.YtginkbjclkdglaaGreatLB7Z
set_option maxHeartbeats 16000000
set_option maxRecDepth 100000
namespace Go.Proofs.YtginkbjclkdglaaGreat
open Go Go.RowKit
def Hv(D:ez)(nm:List UInt8):ez:=⟨D.room,D.fuse,D.dead,D.fs.filter (fun f=>decide (f.nm≠nm)),D.clk⟩
theorem wc{D:ez}{nm:List UInt8}{f:bZ}(ok:D.ok)(h:D.get nm=some f):∃s r,D.fs=s++f::r∧f.nm=nm∧(∀x∈s++r,x.nm≠nm)∧D.fs.filter (fun f=>decide (f.nm≠nm))=s++r:=by
 obtain⟨hfm,hfn⟩:=kF h
 obtain⟨s,r,hst⟩:=List.append_of_mem hfm
 have hpm:D.fs.Perm (f::(s++r)):=by rw[hst];exact List.perm_middle
 have hne:∀x∈s++r,x.nm≠nm:=fun x hx he=>by
  have hnd:=(hpm.map (·.nm)).nodup_iff.1 ok.nd
  rw[List.map_cons,List.nodup_cons] at hnd
  exact hnd.1 (List.mem_map.2 ⟨x,hx,by rw[he,hfn]⟩)
 refine⟨s,r,hst,hfn,hne,?_⟩
 rw[hst,List.filter_append,List.filter_cons_of_neg (by simpa using hfn),List.filter_eq_self.2 (fun x hx=>decide_eq_true (hne x (List.mem_append_left _ hx))),List.filter_eq_self.2 (fun x hx=>decide_eq_true (hne x (List.mem_append_right _ hx)))]
theorem wl{D:ez}{s r:List bZ}{f:bZ}(h:D.fs=s++f::r):D.es=s.map bZ.e++f.e::r.map bZ.e:=by
 unfold ez.es
 rw[h,List.map_append,List.map_cons]
theorem AH(bd bm:Nat)(D:ez)(nm:List UInt8)(ok:D.ok)(hd:D.dead=false)(hf:D.fuse= -1)(f:bZ)(hg:D.get nm=some f):aQ Tryz.prog 68 [.ptr 0 bd [] 0,.s nm] (dk bd bm D) (fun v os=>v= .i .i64 0∧os=dk bd bm (Hv D nm)):=by
 have k3:=nI bd D.room (-1) (.map (some bm)) false (by decide)
 have bU:=mi D nm
 rw[hg] at bU
 have hlk:C8 3 (jr nm D.es)= .ptr 3 f.blk [] 0:=by rw[bU];rfl
 obtain⟨s,r,hst,hfn,hne,hfl⟩:=wc ok hg
 have hos1:(D.fs.map bZ.O).Perm (f.O::(s++r).map bZ.O):=by rw[hst];exact(List.perm_middle (l₁:=s) (l₂:=r)).map bZ.O
 have hde:pA nm D.es=(s++r).map bZ.e:=by
  rw[wl hst,ws hfn (fun x hx=>by obtain⟨y,hy,rfl⟩:=List.mem_map.1 hx;exact hne y (List.mem_append_left _ hy)),List.map_append]
 have hfin:dk bd bm (Hv D nm)=[.var bd (.agg [.i .i64 D.room,.own 1 (.map (some bm)),.i .i64 (-1),.b false]),.obj bm (cV (pA nm D.es) D.clk),bL ((s++r).map bZ.O)]:=by
  rw[hde]
  unfold dk cO Hv ez.es
  rw[hfl,hd,hf]
 have hL:dk bd bm D=[.var bd (.agg [.i .i64 D.room,.own 1 (.map (some bm)),.i .i64 (-1),.b false]),.obj bm (cV D.es D.clk),bL (D.fs.map bZ.O)]:=by unfold dk cO;rw[hd,hf]
 rw[hL,hfin]
 have hR:fw (-1) false=(true,0, -1,false):=rfl
 rw[hR] at k3
 refine aA ab [(0,.var bd (.agg [.i .i64 D.room,.own 1 (.map (some bm)),.i .i64 (-1),.b false])),(1,.obj bm (cV D.es D.clk)),(2,bL (D.fs.map bZ.O))] Tryz.func68 Z Tryz.ntmps68 aN Z Z (fun C=>?_) Z
 refine ag.pull 2 3 Z hos1 Z ?_
 repeat' (first|refine ae ?_|refine aa ?_|refine ac (ax ?_)|refine ah (ax ?_)|refine ap (bC ?_)|refine aU ab (fun _=>?_)|refine fQ ab Z Z Z Z Z ?_|refine aB Z ?_|(refine e7 3 ab Z Z Z Z Z Z Z hlk Z ?_)|refine bk [] [0] [0] Z k3 ⟨af,J⟩ Z dD Z Z ?_|(refine s9 ab Z Z Z Z Z Z Z Z ?_))
 all_goals
  exact aH [] [(0,_),(1,_),(2,_)] (.i .i64 0) Z (bX (am Z) Z) (az 0 Z (az 1 Z (az 2 Z .nil))) ⟨rfl,rfl⟩
theorem C6(bd bm:Nat)(D:ez)(fr to:List UInt8)(ok:D.ok)(hd:D.dead=false)(hf:D.fuse= -1)(f:bZ)(hg:D.get fr=some f)(hto:fg to=true)(htl:to.length≤9223372036854775807)(_hne0:fr≠to)(hn:D.get to=none):
 aQ Tryz.prog 98 [.ptr 0 bd [] 0,.s fr,.s to] (dk bd bm D) (fun v os=>v= .i .i64 0∧os=dk bd bm ⟨D.room, -1,false,D.fs.filter (fun g=>decide (g.nm≠fr))++[⟨to,f.blk,D.clk,f.b,f.sure⟩],D.clk+1⟩):=by
 have k3:=nI bd D.room (-1) (.map (some bm)) false (by decide)
 have k1:=qS to htl
 rw[hto] at k1
 have bU:=mi D fr
 rw[hg] at bU
 have hlk:C8 3 (jr fr D.es)= .ptr 3 f.blk [] 0:=by rw[bU];rfl
 obtain⟨s,r,hst,hfn,hne,hfl⟩:=wc ok hg
 have hde:pA fr D.es=(s++r).map bZ.e:=by
  rw[wl hst,ws hfn (fun x hx=>by obtain⟨y,hy,rfl⟩:=List.mem_map.1 hx;exact hne y (List.mem_append_left _ hy)),List.map_append]
 have hb2:jr to (pA fr D.es)=none:=by
  have h1:D.get to=none:=hn
  unfold ez.get at h1
  rw[hst] at h1
  have h2:=mi ⟨D.room,D.fuse,D.dead,s++r,D.clk⟩ to
  rw[hde]
  refine h2.trans ?_
  have h3:(s++r).find? (fun f=>f.nm==to)=none:=by
   rw[List.find?_eq_none] at h1 ⊢
   exact fun x hx=>h1 x (by rcases List.mem_append.1 hx with h|h;exact List.mem_append_left _ h;exact List.mem_append_right _ (List.mem_cons_of_mem _ h))
  show Option.map _ ((s++r).find? (fun f=>f.nm==to))=none
  rw[h3];rfl
 have hos1:(D.fs.map bZ.O).Perm (f.O::(s++r).map bZ.O):=by rw[hst];exact(List.perm_middle (l₁:=s) (l₂:=r)).map bZ.O
 have hos2:((s++r++[(⟨to,f.blk,D.clk,f.b,f.sure⟩:bZ)]).map bZ.O).Perm (f.O::(s++r).map bZ.O):=by
  rw[List.map_append (l₁:=s++r)]
  exact List.perm_append_comm
 have hfin:dk bd bm ⟨D.room, -1,false,D.fs.filter (fun g=>decide (g.nm≠fr))++[⟨to,f.blk,D.clk,f.b,f.sure⟩],D.clk+1⟩=[.var bd (.agg [.i .i64 D.room,.own 1 (.map (some bm)),.i .i64 (-1),.b false]),.obj bm (cV (pA fr D.es++[(to,f.blk,D.clk)]) (D.clk+1)),bL ((s++r++[(⟨to,f.blk,D.clk,f.b,f.sure⟩:bZ)]).map bZ.O)]:=by
  rw[hde,hfl]
  unfold dk cO ez.es
  dsimp only
  rw[List.map_append (f:=bZ.e)];rfl
 have hL:dk bd bm D=[.var bd (.agg [.i .i64 D.room,.own 1 (.map (some bm)),.i .i64 (-1),.b false]),.obj bm (cV D.es D.clk),bL (D.fs.map bZ.O)]:=by unfold dk cO;rw[hd,hf]
 rw[hL,hfin]
 have hR:fw (-1) false=(true,0, -1,false):=rfl
 rw[hR] at k3
 refine aA ab [(0,.var bd (.agg [.i .i64 D.room,.own 1 (.map (some bm)),.i .i64 (-1),.b false])),(1,.obj bm (cV D.es D.clk)),(2,bL (D.fs.map bZ.O))] Tryz.func98 Z Tryz.ntmps98 aN Z Z (fun C=>?_) Z
 refine ag.pull 2 3 Z hos1 Z ?_
 repeat' (first|refine ae ?_|refine aj ?_|refine aa ?_|refine ac (ax ?_)|refine ah (ax ?_)|refine ap (bC ?_)|refine aU ab (fun _=>?_)|refine fQ ab Z Z Z Z Z ?_|refine aB Z ?_|(refine e7 3 ab Z Z Z Z Z Z Z hlk Z ?_)|refine bk [] [0] [0] Z k3 ⟨af,J⟩ Z dD Z Z ?_|(refine s9 ab Z Z Z Z Z Z Z Z ?_)|(refine xY ab Z Z Z Z Z Z Z hb2 Z Z ?_)|refine au Z (k1) ⟨aP,J⟩ Z ?_)
 all_goals
  exact aH [] [(0,_),(1,_),(2,_)] (.i .i64 0) Z (bX (am Z) Z) (az 0 Z (az 1 Z (cr.push 3 2 Z (ak _) Z hos2 .nil))) ⟨rfl,rfl⟩
theorem C5(bd bm:Nat)(D:ez)(fr to:List UInt8)(ok:D.ok)(hd:D.dead=false)(hf:D.fuse= -1)(f g:bZ)(hg:D.get fr=some f)(hto:fg to=true)(htl:to.length≤9223372036854775807)(hne0:fr≠to)(hn:D.get to=some g):
 ∃s2 r2,D.fs.filter (fun x=>decide (x.nm≠fr))=s2++g::r2∧g.nm=to∧aQ Tryz.prog 98 [.ptr 0 bd [] 0,.s fr,.s to] (dk bd bm D) (fun v os=>v= .i .i64 0∧os=dk bd bm ⟨D.room, -1,false,s2++⟨to,f.blk,g.born,f.b,f.sure⟩::r2,D.clk⟩):=by
 have k3:=nI bd D.room (-1) (.map (some bm)) false (by decide)
 have k1:=qS to htl
 rw[hto] at k1
 have bU:=mi D fr
 rw[hg] at bU
 have hlk:C8 3 (jr fr D.es)= .ptr 3 f.blk [] 0:=by rw[bU];rfl
 obtain⟨s,r,hst,hfn,hne,hfl⟩:=wc ok hg
 obtain⟨hgm,hgn⟩:=kF hn
 have hgsr:g∈s++r:=by rw[←hfl];exact List.mem_filter.2 ⟨hgm,decide_eq_true (by rw[hgn];exact fun e=>hne0 e.symm)⟩
 obtain⟨s2,r2,hsr⟩:=List.append_of_mem hgsr
 refine⟨s2,r2,by rw[hfl,hsr],hgn,?_⟩
 have hs2:∀x∈s2,x.nm≠to:=fun x hx he=>by
  have hnd:((s++r).map (·.nm)).Nodup:=by
   have h1:=((by rw[hst];exact List.perm_middle:D.fs.Perm (f::(s++r))).map (·.nm)).nodup_iff.1 ok.nd
   rw[List.map_cons,List.nodup_cons] at h1
   exact h1.2
  rw[hsr,List.map_append,List.map_cons] at hnd
  exact(List.nodup_append.1 hnd).2.2 x.nm (List.mem_map.2 ⟨x,hx,rfl⟩) g.nm (List.mem_cons_self ..) (by rw[he,hgn])
 have hde:pA fr D.es=s2.map bZ.e++g.e::r2.map bZ.e:=by
  rw[wl hst,ws hfn (fun x hx=>by obtain⟨y,hy,rfl⟩:=List.mem_map.1 hx;exact hne y (List.mem_append_left _ hy)),←List.map_append,hsr,List.map_append,List.map_cons]
 have hse:∀x∈s2.map bZ.e,x.1≠to:=fun x hx=>by obtain⟨y,hy,rfl⟩:=List.mem_map.1 hx;exact hs2 y hy
 have hb2:jr to (pA fr D.es)≠none:=by
  rw[hde]
  unfold jr
  rw[rZ to g.e _ hgn _ 0 hse]
  exact fun h=>by cases h
 have hmo:vN to f.blk (pA fr D.es)=(s2++(⟨to,f.blk,g.born,f.b,f.sure⟩:bZ)::r2).map bZ.e:=by
  rw[hde,HS hgn hse,List.map_append,List.map_cons];rfl
 have hos1:(D.fs.map bZ.O).Perm (f.O::(s++r).map bZ.O):=by rw[hst];exact(List.perm_middle (l₁:=s) (l₂:=r)).map bZ.O
 have hos3:((s++r).map bZ.O).Perm (g.O::(s2++r2).map bZ.O):=by rw[hsr];exact(List.perm_middle (l₁:=s2) (l₂:=r2)).map bZ.O
 have hos2:((s2++(⟨to,f.blk,g.born,f.b,f.sure⟩:bZ)::r2).map bZ.O).Perm (f.O::(s2++r2).map bZ.O):=(List.perm_middle (l₁:=s2) (l₂:=r2)).map bZ.O
 have hfin:dk bd bm ⟨D.room, -1,false,s2++⟨to,f.blk,g.born,f.b,f.sure⟩::r2,D.clk⟩=[.var bd (.agg [.i .i64 D.room,.own 1 (.map (some bm)),.i .i64 (-1),.b false]),.obj bm (cV (vN to f.blk (pA fr D.es)) D.clk),bL ((s2++(⟨to,f.blk,g.born,f.b,f.sure⟩:bZ)::r2).map bZ.O)]:=by
  rw[hmo];rfl
 have hL:dk bd bm D=[.var bd (.agg [.i .i64 D.room,.own 1 (.map (some bm)),.i .i64 (-1),.b false]),.obj bm (cV D.es D.clk),bL (D.fs.map bZ.O)]:=by unfold dk cO;rw[hd,hf]
 rw[hL,hfin]
 have hR:fw (-1) false=(true,0, -1,false):=rfl
 rw[hR] at k3
 refine aA ab [(0,.var bd (.agg [.i .i64 D.room,.own 1 (.map (some bm)),.i .i64 (-1),.b false])),(1,.obj bm (cV D.es D.clk)),(2,bL (D.fs.map bZ.O))] Tryz.func98 Z Tryz.ntmps98 aN Z Z (fun C=>?_) Z
 refine ag.pull 2 3 Z hos1 Z ?_
 refine ag.pull 2 4 Z hos3 Z ?_
 repeat' (first|refine ae ?_|refine aj ?_|refine aa ?_|refine ac (ax ?_)|refine ah (ax ?_)|refine ap (bC ?_)|refine aU ab (fun _=>?_)|refine fQ ab Z Z Z Z Z ?_|refine aB Z ?_|(refine e7 3 ab Z Z Z Z Z Z Z hlk Z ?_)|refine bk [] [0] [0] Z k3 ⟨af,J⟩ Z dD Z Z ?_|(refine s9 ab Z Z Z Z Z Z Z Z ?_)|(refine Db ab Z Z Z Z Z Z Z hb2 Z Z ?_)|refine au Z (k1) ⟨aP,J⟩ Z ?_)
 all_goals
  exact aH [] [(0,_),(1,_),(2,_)] (.i .i64 0) Z (bX (am Z) Z) (az 0 Z (az 1 Z (cr.push 3 2 Z (ak _) Z hos2 .nil))) ⟨rfl,rfl⟩
set_option maxHeartbeats 4000000
def jc(L:List (List UInt8×List UInt8))(nm:List UInt8):List (List UInt8×List UInt8):=L.filter (fun p=>decide (p.1≠nm))
theorem Vw.some{D:ez}{L:List (List UInt8×List UInt8)}(v:Vw D L){nm b:List UInt8}(h:l5 L nm=some b):∃f,D.get nm=some f∧f.b=b:=by
 rw[←v.get nm] at h
 cases hg:D.get nm with
 |none=>rw[hg] at h;cases h
 |some f=>rw[hg] at h;exact⟨f,rfl,Option.some.inj h⟩
theorem ez.ok.sub{D:ez}(ok:D.ok){fs:List bZ}(h:List.Sublist fs D.fs)(r fu:Int)(d:Bool)(hr:0≤r∧r≤1099511627776):(ez.mk r fu d fs D.clk).ok:=
 ⟨ok.nd.sublist (h.map _),ok.bn.sublist (h.map _),fun f hf=>ok.lt f (h.subset hf),fun f hf=>ok.nl f (h.subset hf),fun f hf=>ok.su f (h.subset hf),hr⟩
theorem wd(nm:List UInt8)(l:List bZ):(l.filter (fun f=>decide (f.nm≠nm))).map (fun f=>(f.nm,f.b))=jc (l.map (fun f=>(f.nm,f.b))) nm:=by
 unfold jc
 rw[List.filter_map];rfl
theorem Vw.rem{D:ez}{L:List (List UInt8×List UInt8)}(v:Vw D L)(nm:List UInt8):Vw (Hv D nm) (jc L nm)∧(Hv D nm).room=D.room:=by
 refine⟨⟨v.ok.sub List.filter_sublist _ _ _ v.ok.room,v.dead,v.fuse,fun f hf=>v.sure f (List.mem_filter.1 hf).1,?_⟩,rfl⟩
 show ((D.fs.filter _).map _).Perm _
 rw[wd]
 exact v.pm.filter _
theorem HP(L:List (List UInt8×List UInt8))(nm:List UInt8):eN (jc L nm)=(eN L).filter (fun k=>decide (k≠nm)):=by
 unfold eN jc
 rw[List.filter_map];rfl
theorem j9{L:List (List UInt8×List UInt8)}{nm:List UInt8}(h:nm∉eN L):jc L nm=L:=
 List.filter_eq_self.2 (fun p hp=>decide_eq_true (fun e=>h (by rw[←e];exact List.mem_map.2 ⟨p,hp,rfl⟩)))
theorem Vw.ren{D D':ez}{L:List (List UInt8×List UInt8)}(v:Vw D L){fr to b:List UInt8}(hg:l5 L fr=Option.some b)(hto:fg to=true)(hne:fr≠to)
 (h:(D.get to=none∧∃f,D.get fr=Option.some f∧D'=⟨D.room, -1,false,D.fs.filter (fun g=>decide (g.nm≠fr))++[⟨to,f.blk,D.clk,f.b,f.sure⟩],D.clk+1⟩)∨
  ∃f g s2 r2,D.get fr=Option.some f∧D.fs.filter (fun x=>decide (x.nm≠fr))=s2++g::r2∧g.nm=to∧D'=⟨D.room, -1,false,s2++⟨to,f.blk,g.born,f.b,f.sure⟩::r2,D.clk⟩):
 Vw D' ((to,b)::jc (jc L fr) to)∧D'.room=D.room:=by
 have htl:to.length≤100:=by unfold fg at hto;simp at hto;exact hto.2
 have hb:∀f,D.get fr=Option.some f→f.b=b∧f.sure=f.b.length∧f∈D.fs:=fun f hf=>by
  obtain⟨f',h1,h2⟩:=v.some hg
  rw[hf] at h1;cases h1
  exact⟨h2,v.sure f (kF hf).1,(kF hf).1⟩
 have hsub:List.Sublist (D.fs.filter (fun g=>decide (g.nm≠fr))) D.fs:=List.filter_sublist
 have hpf:((D.fs.filter (fun g=>decide (g.nm≠fr))).map (fun f=>(f.nm,f.b))).Perm (jc L fr):=by rw[wd];exact v.pm.filter _
 rcases h with ⟨hn,f,hf,rfl⟩|⟨f,g,s2,r2,hf,hfl,hgn,rfl⟩
 ·obtain⟨hfb,hfs,_⟩:=hb f hf
  have hnk:to∉eN (jc L fr):=fun h=>by
   rw[HP] at h
   exact ph.1 ((v.get_none to).1 hn) (List.mem_filter.1 h).1
  have hall:∀x∈D.fs.filter (fun g=>decide (g.nm≠fr))++[(⟨to,f.blk,D.clk,f.b,f.sure⟩:bZ)],x.born<D.clk+1∧x.nm.length≤100∧x.sure=x.b.length:=fun x hx=>by
   rcases List.mem_append.1 hx with hx|hx
   ·exact⟨Nat.lt_succ_of_lt (v.ok.lt x (hsub.subset hx)),v.ok.nl x (hsub.subset hx),v.sure x (hsub.subset hx)⟩
   ·rw[List.mem_singleton.1 hx];exact⟨Nat.lt_succ_self _,htl,hfs⟩
  refine⟨⟨⟨?_,?_,fun x hx=>(hall x hx).1,fun x hx=>(hall x hx).2.1,fun x hx=>Nat.le_of_eq (hall x hx).2.2,v.ok.room⟩,rfl,rfl,fun x hx=>(hall x hx).2.2,?_⟩,rfl⟩
  ·show (List.map bZ.nm (_++[_])).Nodup
   rw[List.map_append]
   refine List.nodup_append.2 ⟨v.ok.nd.sublist (hsub.map _),by simp,fun a ha c hc he=>?_⟩
   rw[List.mem_singleton.1 hc] at he
   subst he
   exact Go.Proofs.YtginkbjclkdglaaGreat.get_none hn ((hsub.map _).subset ha)
  ·show (List.map bZ.born (_++[_])).Nodup
   rw[List.map_append]
   refine List.nodup_append.2 ⟨v.ok.bn.sublist (hsub.map _),by simp,fun a ha c hc he=>?_⟩
   rw[List.mem_singleton.1 hc] at he
   subst he
   obtain⟨x,hx,hxb⟩:=List.mem_map.1 ((hsub.map bZ.born).subset ha)
   have h1:=v.ok.lt x hx
   have hxb:x.born=D.clk:=hxb
   omega
  ·show (List.map _ (_++[_])).Perm _
   rw[List.map_append,j9 hnk,←hfb]
   exact List.perm_append_comm.trans ((hpf).cons _)
 ·obtain⟨hfb,hfs,_⟩:=hb f hf
  rw[hfl] at hsub hpf
  have hall:∀x∈s2++(⟨to,f.blk,g.born,f.b,f.sure⟩:bZ)::r2,x.born<D.clk∧x.nm.length≤100∧x.sure=x.b.length:=fun x hx=>by
   have hold:∀x∈s2++g::r2,x.born<D.clk∧x.nm.length≤100∧x.sure=x.b.length:=fun x hx=>⟨v.ok.lt x (hsub.subset hx),v.ok.nl x (hsub.subset hx),v.sure x (hsub.subset hx)⟩
   rcases List.mem_append.1 hx with hx|hx
   ·exact hold x (List.mem_append_left _ hx)
   rcases List.mem_cons.1 hx with hx|hx
   ·rw[hx];exact⟨(hold g (List.mem_append_right _ (List.mem_cons_self ..))).1,htl,hfs⟩
   ·exact hold x (List.mem_append_right _ (List.mem_cons_of_mem _ hx))
  have hnm:(s2++(⟨to,f.blk,g.born,f.b,f.sure⟩:bZ)::r2).map (·.nm)=(s2++g::r2).map (·.nm):=by rw[List.map_append,List.map_append,List.map_cons,List.map_cons,hgn]
  have hbn:(s2++(⟨to,f.blk,g.born,f.b,f.sure⟩:bZ)::r2).map (·.born)=(s2++g::r2).map (·.born):=by rw[List.map_append,List.map_append,List.map_cons,List.map_cons]
  have hnd:((s2++g::r2).map (·.nm)).Nodup:=v.ok.nd.sublist (hsub.map _)
  refine⟨⟨⟨?_,?_,fun x hx=>(hall x hx).1,fun x hx=>(hall x hx).2.1,fun x hx=>Nat.le_of_eq (hall x hx).2.2,v.ok.room⟩,rfl,rfl,fun x hx=>(hall x hx).2.2,?_⟩,rfl⟩
  ·show (List.map bZ.nm _).Nodup
   rw[hnm];exact hnd
  ·show (List.map bZ.born _).Nodup
   rw[hbn];exact v.ok.bn.sublist (hsub.map _)
  ·show (List.map _ (s2++_::r2)).Perm _
   have h1:=hpf.symm.filter (fun p=>decide (p.1≠to))
   have h2:((s2++g::r2).map (fun f=>(f.nm,f.b))).filter (fun p=>decide (p.1≠to))=(s2++r2).map (fun f=>(f.nm,f.b)):=by
    rw[List.map_append,List.map_cons] at hnd
    have h3:=List.nodup_append.1 hnd
    rw[List.map_append,List.map_cons,List.filter_append,List.filter_cons_of_neg (by simpa using hgn),List.map_append]
    congr 1
    ·exact List.filter_eq_self.2 (fun p hp=>by
      obtain⟨x,hx,rfl⟩:=List.mem_map.1 hp
      exact decide_eq_true (fun e=>h3.2.2 x.nm (List.mem_map.2 ⟨x,hx,rfl⟩) g.nm (List.mem_cons_self ..) (by rw[hgn];exact e)))
    ·exact List.filter_eq_self.2 (fun p hp=>by
      obtain⟨x,hx,rfl⟩:=List.mem_map.1 hp
      exact decide_eq_true (fun e=>(List.nodup_cons.1 h3.2.1).1 (List.mem_map.2 ⟨x,hx,by rw[hgn];exact e⟩)))
   rw[h2] at h1
   refine List.Perm.trans ?_ (h1.symm.cons (to,b))
   rw[List.map_append,List.map_cons,List.map_append,←hfb]
   exact List.perm_middle
structure ei where
 D:ez
 now:Nat
 mem:List aC
 msz:Int
 st:iH
 ts:List (Int×AV×Nat)
 c:Nat
def dY(B:gV)(o:eW)(S:ei):List HO:=[.var B.bd (cO B.bm S.D),.obj B.bm (cV S.D.es S.D.clk),bL (S.D.fs.map bZ.O),eC B.bd B.bj S.now,.var B.bs (dm B o S.mem S.msz S.st),io B.bt S.ts S.c]
def jm(blk:Int)(p:Fl×List aC):Jg:=pf p.2 (grp blk p.2 [] 0) (mt p.2 blk).1
structure GO(blk:Int)(p:Fl×List aC):Prop where
 up:Up p.2
 few:p.2.length≤300
 ok:∀x∈p.2,Kp x
 mke:(mt p.2 blk).2=0
 fst:qo p.2=p.1.first
 lst:np p.2=p.1.last
 num:0≤p.1.num∧p.1.num<1073741824
def Ac(blk:Int)(p:Fl×List aC):List UInt8×List UInt8:=(eM p.1.num.toNat,(mt p.2 blk).1)
def Fy(blk:Int)(p:Fl×List aC):Int×AV:=(p.1.num,.cp (iY (jm blk p)))
def mu:List UInt8:=[109,97,110]
def mS:List UInt8:=[109,97,110,126]
def Dm:Option (List UInt8)→List (List UInt8×List UInt8)
 |none=>[]
 |some b=>[(mu,b)]
def iz(jl:List (Nat×List (List aC))):List (Nat×List (List UInt8)):=jl.map (fun p=>(p.1,p.2.map ey))
def dR(blk:Int)(m:Option (List UInt8))(fx:List (Fl×List aC)):List (List UInt8×List UInt8):=Dm m++fx.map (Ac blk)
structure dH(o:eW)(S:ei)(jl:List (Nat×List (List aC)))(m:Option (List UInt8))(fx:List (Fl×List aC)):Prop where
 vw:Vw S.D (de (iz jl)++dR o.blk m fx)
 jo:Nn (iz jl) S.now
 nd:(fx.map (·.1.num)).Nodup
 tok:∀p∈fx,GO o.blk p
 tsp:(S.ts.map (fun t=>(t.1,t.2.1))).Perm (fx.map (Fy o.blk))
 tsb:∀t∈S.ts,t.2.2<S.c
 tbn:(S.ts.map (·.2.2)).Nodup
 room:S.D.room≤16777216∧(S.D.used:Int)≤S.D.room∧S.D.fs.length≤4096
 rm:S.D.room=o.rm
theorem dH.perm{o:eW}{S:ei}{jl:List (Nat×List (List aC))}{m:Option (List UInt8)}{fx fx':List (Fl×List aC)}(h:dH o S jl m fx)(p:fx.Perm fx'):dH o S jl m fx':=
 ⟨h.vw.perm ((List.Perm.refl _).append ((List.Perm.refl _).append (p.map _))),h.jo,(p.map _).nodup_iff.1 h.nd,fun x hx=>h.tok x (p.mem_iff.2 hx),h.tsp.trans (p.map _),h.tsb,h.tbn,h.room,h.rm⟩
theorem dH.jlt{o:eW}{S:ei}{jl:List (Nat×List (List aC))}{m:Option (List UInt8)}{fx:List (Fl×List aC)}(h:dH o S jl m fx):∀p∈iz jl,p.1<10000000000:=fun p hp=>Nat.lt_of_le_of_lt (h.jo.le p hp) h.jo.lim
theorem zi:kT mu=none:=by decide
theorem Js:kT mS=none:=by decide
theorem uI(blk:Int)(m:Option (List UInt8))(fx:List (Fl×List aC)):∀k∈eN (dR blk m fx),kT k=none:=fun k hk=>by
 unfold eN dR at hk
 rw[List.map_append,List.mem_append] at hk
 rcases hk with hk|hk
 ·cases m with
  |none=>cases hk
  |some b=>rw[List.mem_singleton.1 hk];exact zi
 ·rw[List.map_map] at hk
  obtain⟨p,_,rfl⟩:=List.mem_map.1 hk
  exact ve _
theorem vU(l:List (Nat×List (List UInt8)))(hl:∀p∈l,p.1<10000000000){k:List UInt8}(hk:kT k=none):k∉eN (de l):=fun h=>by
 rw[rP] at h
 obtain⟨n,hn,rfl⟩:=List.mem_map.1 h
 obtain⟨p,hp,rfl⟩:=List.mem_map.1 hn
 rw[kM (hl p hp)] at hk
 cases hk
theorem yR(n:Nat):eM n≠mu:=fun h=>by have:=congrArg List.length h;rw[m9] at this;cases this
theorem EC(n:Nat):eM n≠mS:=fun h=>by have:=congrArg List.length h;rw[m9] at this;cases this
theorem EB{blk:Int}{fx:List (Fl×List aC)}(tok:∀p∈fx,GO blk p){n:Nat}(hn:n<1073741824):eM n∈eN (fx.map (Ac blk))↔(n:Int)∈fx.map (·.1.num):=by
 unfold eN
 rw[List.map_map]
 refine⟨fun h=>?_,fun h=>?_⟩
 ·obtain⟨p,hp,he⟩:=List.mem_map.1 h
  have h1:=(tok p hp).num
  have h2:=Aj (n:=p.1.num.toNat) (m:=n) (by omega) (by omega) he
  exact List.mem_map.2 ⟨p,hp,by show p.1.num=n;omega⟩
 ·obtain⟨p,hp,he⟩:=List.mem_map.1 h
  refine List.mem_map.2 ⟨p,hp,?_⟩
  show eM p.1.num.toNat=eM n
  have he:p.1.num=n:=he
  rw[he];rfl
theorem dH.no_tab{o:eW}{S:ei}{jl:List (Nat×List (List aC))}{m:Option (List UInt8)}{fx:List (Fl×List aC)}(h:dH o S jl m fx){n:Nat}(hn:n<1073741824)(hf:(n:Int)∉fx.map (·.1.num)):eM n∉eN (de (iz jl)++dR o.blk m fx):=fun hk=>by
 unfold eN at hk
 rw[List.map_append,List.mem_append] at hk
 rcases hk with hk|hk
 ·exact vU _ h.jlt (ve n) hk
 ·unfold dR at hk
  rw[List.map_append,List.mem_append] at hk
  rcases hk with hk|hk
  ·cases m with
   |none=>cases hk
   |some b=>exact yR n (List.mem_singleton.1 hk)
  ·exact hf ((EB h.tok hn).1 hk)
theorem E1:∀{L:List (List UInt8×List UInt8)},(eN L).Nodup→∀x∈L,l5 L x.1=some x.2
 |y::r,nd,x,hx=>by
  unfold l5
  rcases List.mem_cons.1 hx with rfl|hx
  ·rw[if_pos Z]
  ·rw[if_neg (fun e=>(List.nodup_cons.1 nd).1 (by show y.1∈List.map _ r;rw[e];exact List.mem_map.2 ⟨x,hx,rfl⟩))]
   exact E1 (List.nodup_cons.1 nd).2 x hx
theorem dH.lk{o:eW}{S:ei}{jl:List (Nat×List (List aC))}{m:Option (List UInt8)}{fx:List (Fl×List aC)}(h:dH o S jl m fx){p:Fl×List aC}(hp:p∈fx):l5 (de (iz jl)++dR o.blk m fx) (eM p.1.num.toNat)=some (mt p.2 o.blk).1:=
 E1 h.vw.nd (Ac o.blk p) (List.mem_append_right _ (List.mem_append_right _ (List.mem_map.2 ⟨p,hp,rfl⟩)))
theorem dH.add{o:eW}{S S':ei}{jl:List (Nat×List (List aC))}{m:Option (List UInt8)}{fx:List (Fl×List aC)}(h:dH o S jl m fx){p:Fl×List aC}(hp:GO o.blk p)(hf:p.1.num∉fx.map (·.1.num)){D':ez}(hv:Vw D' (gD (de (iz jl)++dR o.blk m fx) (eM p.1.num.toNat) (mt p.2 o.blk).1))(hr:D'.room=S.D.room)(hu:(D'.used:Int)≤D'.room)(hl:D'.fs.length≤4096)
 (hS:S'=⟨D',S.now,S.mem,S.msz,S.st,S.ts++[(p.1.num,.cp (iY (jm o.blk p)),S.c)],S.c+1⟩):dH o S' jl m (fx++[p]):=by
 subst hS
 have hn:=hp.num
 have hno:=h.no_tab (n:=p.1.num.toNat) (by omega) (by rw[Int.toNat_of_nonneg hn.1];exact hf)
 rw[o8 hno] at hv
 refine⟨?_,h.jo,?_,?_,?_,?_,?_,⟨by rw[hr];exact h.room.1,hu,hl⟩,hr.trans h.rm⟩
 ·refine hv.perm ?_
  unfold dR
  rw[List.map_append,List.append_assoc,List.append_assoc]
  exact List.Perm.refl _
 ·rw[List.map_append]
  exact List.nodup_append.2 ⟨h.nd,by simp,fun a ha b hb e=>by rw[List.mem_singleton.1 hb] at e;subst e;exact hf ha⟩
 ·intro x hx
  rcases List.mem_append.1 hx with hx|hx
  ·exact h.tok x hx
  ·rw[List.mem_singleton.1 hx];exact hp
 ·show ((S.ts++[_]).map _).Perm _
  rw[List.map_append,List.map_append]
  exact h.tsp.append (List.Perm.refl _)
 ·intro t ht
  show t.2.2<S.c+1
  rcases List.mem_append.1 ht with ht|ht
  ·exact Nat.lt_succ_of_lt (h.tsb t ht)
  ·rw[List.mem_singleton.1 ht];exact Nat.lt_succ_self _
 ·show ((S.ts++[(p.1.num,AV.cp (iY (jm o.blk p)),S.c)]).map (fun t=>t.2.2)).Nodup
  rw[List.map_append]
  exact List.nodup_append.2 ⟨h.tbn,by simp,fun a ha b hb e=>by
   rw[List.mem_singleton.1 hb] at e
   subst e
   obtain⟨t,ht,he⟩:=List.mem_map.1 ha
   have h1:=h.tsb t ht
   have he:t.2.2=S.c:=he
   omega⟩
theorem pz(A C:List (List UInt8×List UInt8))(nm:List UInt8):jc (A++C) nm=jc A nm++jc C nm:=List.filter_append ..
theorem dH.ts_nd{o:eW}{S:ei}{jl:List (Nat×List (List aC))}{m:Option (List UInt8)}{fx:List (Fl×List aC)}(h:dH o S jl m fx):(S.ts.map (·.1)).Nodup:=by
 have h1:=(h.tsp.map (·.1)).nodup_iff.2 (by rw[List.map_map];exact h.nd)
 rw[List.map_map] at h1
 exact h1
theorem dH.del{o:eW}{S S':ei}{jl:List (Nat×List (List aC))}{m:Option (List UInt8)}{fx:List (Fl×List aC)}{p:Fl×List aC}(h:dH o S jl m (p::fx)){D':ez}(hv:Vw D' (jc (de (iz jl)++dR o.blk m (p::fx)) (eM p.1.num.toNat)))(hr:D'.room=S.D.room)
 (hS:S'=⟨D',S.now,S.mem,S.msz,S.st,qE p.1.num S.ts,S.c⟩):dH o S' jl m fx:=by
 subst hS
 have hn:=(h.tok p (List.mem_cons_self ..)).num
 have htok:∀q∈fx,GO o.blk q:=fun q hq=>h.tok q (List.mem_cons_of_mem _ hq)
 have hnd:=h.nd
 rw[List.map_cons] at hnd
 have hpn:=(List.nodup_cons.1 hnd).1
 have hde:jc (de (iz jl)++dR o.blk m (p::fx)) (eM p.1.num.toNat)=de (iz jl)++dR o.blk m fx:=by
  unfold dR
  rw[pz,pz,j9 (vU _ h.jlt (ve _)),List.map_cons]
  have h1:jc (Dm m) (eM p.1.num.toNat)=Dm m:=by
   refine j9 (fun hk=>?_)
   cases m with
   |none=>cases hk
   |some b=>exact yR _ (List.mem_singleton.1 hk)
  have h2:jc (Ac o.blk p::fx.map (Ac o.blk)) (eM p.1.num.toNat)=fx.map (Ac o.blk):=by
   unfold jc
   rw[List.filter_cons_of_neg (by simp[Ac])]
   refine j9 (fun hk=>hpn ?_)
   have h3:=(EB (n:=p.1.num.toNat) htok (by omega)).1 hk
   rw[Int.toNat_of_nonneg hn.1] at h3
   exact h3
  rw[h1,h2]
 rw[hde] at hv
 have hul:D'.used≤S.D.used∧D'.fs.length≤S.D.fs.length:=by
  rw[hv.used,h.vw.used,hv.len,h.vw.len]
  unfold dR
  rw[List.map_cons,eH,eH,eH,eH,dN]
  simp only[List.length_append,List.length_cons]
  omega
 have hrm:=h.room
 have hbn:((qE p.1.num S.ts).map (·.2.2)).Nodup:=h.tbn.sublist (List.filter_sublist.map _)
 refine⟨hv,h.jo,(List.nodup_cons.1 hnd).2,htok,?_,fun t ht=>h.tsb t (List.mem_filter.1 ht).1,hbn,⟨by rw[hr];exact hrm.1,by show (D'.used:Int)≤D'.room;rw[hr];have:=hrm.2.1;omega,by show D'.fs.length≤4096;have:=hrm.2.2;omega⟩,hr.trans h.rm⟩
 have h1:=h.tsp.filter (fun q=>q.1!=p.1.num)
 have h2:(S.ts.map (fun t=>(t.1,t.2.1))).filter (fun q=>q.1!=p.1.num)=(qE p.1.num S.ts).map (fun t=>(t.1,t.2.1)):=by
  unfold qE
  rw[List.filter_map];rfl
 have h3:((p::fx).map (Fy o.blk)).filter (fun q=>q.1!=p.1.num)=fx.map (Fy o.blk):=by
  rw[List.map_cons,List.filter_cons_of_neg (by simp[Fy])]
  refine List.filter_eq_self.2 (fun q hq=>?_)
  obtain⟨x,hx,rfl⟩:=List.mem_map.1 hq
  have:x.1.num≠p.1.num:=fun e=>hpn (by rw[←e];exact List.mem_map.2 ⟨x,hx,rfl⟩)
  simpa [Fy] using this
 rw[h2,h3] at h1
 exact h1
theorem yn{k:Int}{v:AV}:∀{a:List (Int×AV×Nat)},(a.map (·.1)).Nodup→(k,v)∈a.map (fun t=>(t.1,t.2.1))→getT k a=some v
 |t::r,nd,h=>by
  rw[List.map_cons] at nd h
  unfold getT
  rw[List.find?_cons]
  rcases List.mem_cons.1 h with h|h
  ·cases h
   rw[beq_self_eq_true];rfl
  ·have h1:t.1≠k:=fun e=>(List.nodup_cons.1 nd).1 (by
    obtain⟨u,hu,he⟩:=List.mem_map.1 h
    rw[e]
    exact List.mem_map.2 ⟨u,hu,by cases he;rfl⟩)
   rw[beq_eq_false_iff_ne.2 h1]
   exact yn (List.nodup_cons.1 nd).2 h
theorem dH.getT{o:eW}{S:ei}{jl:List (Nat×List (List aC))}{m:Option (List UInt8)}{fx:List (Fl×List aC)}(h:dH o S jl m fx){p:Fl×List aC}(hp:p∈fx):Go.Proofs.YtginkbjclkdglaaGreat.getT p.1.num S.ts=some (.cp (iY (jm o.blk p))):=
 yn h.ts_nd (h.tsp.mem_iff.2 (List.mem_map.2 ⟨p,hp,rfl⟩))
theorem dH.noT{o:eW}{S:ei}{jl:List (Nat×List (List aC))}{m:Option (List UInt8)}{fx:List (Fl×List aC)}(h:dH o S jl m fx){n:Int}(hn:n∉fx.map (·.1.num)):Go.Proofs.YtginkbjclkdglaaGreat.getT n S.ts=none:=by
 refine tv (fun t ht e=>hn ?_)
 have h1:=h.tsp.mem_iff.1 (List.mem_map.2 ⟨t,ht,rfl⟩)
 obtain⟨p,hp,he⟩:=List.mem_map.1 h1
 refine List.mem_map.2 ⟨p,hp,?_⟩
 have:=congrArg Prod.fst he
 rw[←e];exact this
theorem GO.made{blk:Int}{p:Fl×List aC}(h:GO blk p):Cr p.2 (mt p.2 blk).1 (grp blk p.2 [] 0)∧∀e∈p.2,e.k.length≤110∧e.v.length≤4010:=
 ⟨rb p.2 blk h.mke,fun e he=>by have:=h.ok e he;exact⟨by have:=this.1;omega,by have:=this.2.1;omega⟩⟩
set_option maxHeartbeats 16000000
theorem HX{l:List aC}{s:List UInt8}{G:List (List aC)}(h:Cr l s G):Up l:=by
 have:=(zO G [] (pW h) h.chn).1
 rw[h.flat] at this;exact this
theorem JP{l:List aC}{s:List UInt8}{G:List (List aC)}(h:Cr l s G)(i:Nat)(hi:i<l.length):oQ (pf l G s) G l[i].k=(l[i],true):=by
 have hmy:Be ((pf l G s).fp:Nat) (cX (pf l G s).fb) (ed l[i].k)=true:=JO (ig l) 10 l[i].k (List.mem_map.2 ⟨_,List.getElem_mem hi,rfl⟩)
 unfold oQ
 rw[if_pos hmy,qx G [] l[i].k (pW h) h.chn,h.flat,uK (HX h) i hi];rfl
theorem yb{l:List aC}{s:List UInt8}{G:List (List aC)}(h:Cr l s G)(hl:l.length≤300)(hm:∀e∈l,e.k.length≤110∧e.v.length≤4010):
 aQ Tryz.prog 65 [.s s] [] (fun v os=>v= .tup [.cp (iY (pf l G s)),.i .i64 0]∧os=[]):=by
 obtain⟨_,h1,h2,_⟩:=pe h hl hm
 have hps:=(zj h hl hm).1
 have hlen:=ng G 0
 exact CB l (iT G) (lY G 0) hl hm h1 hps (by have:=h.few;omega) h2 s (by rw[hlen];exact h.hs)
def Oa:List aC:=[⟨[97],[49],false⟩]
theorem FR(bd bm:Nat){D:ez}{L:List (List UInt8×List UInt8)}(v:Vw D L){fr to b:List UInt8}(hg:l5 L fr=some b)(hto:fg to=true)(hne:fr≠to):
 aQ Tryz.prog 98 [.ptr 0 bd [] 0,.s fr,.s to] (dk bd bm D) (fun r os=>∃D',r= .i .i64 0∧os=dk bd bm D'∧Vw D' ((to,b)::jc (jc L fr) to)∧D'.room=D.room):=by
 have htl:to.length≤9223372036854775807:=by unfold fg at hto;simp at hto;omega
 obtain⟨f,hf,_⟩:=v.some hg
 cases hn:D.get to with
 |none=>exact(C6 bd bm D fr to v.ok v.dead v.fuse f hf hto htl hne hn).mono (fun r os ⟨h1,h2⟩=>⟨_,h1,h2,v.ren hg hto hne (.inl ⟨hn,f,hf,rfl⟩)⟩)
 |some g=>
  obtain⟨s2,r2,h1,h2,h3⟩:=C5 bd bm D fr to v.ok v.dead v.fuse f g hf hto htl hne hn
  exact h3.mono (fun r os ⟨h4,h5⟩=>⟨_,h4,h5,v.ren hg hto hne (.inr ⟨f,g,s2,r2,hf,h1,h2,rfl⟩)⟩)
theorem sW(bd bm:Nat){D:ez}{L:List (List UInt8×List UInt8)}(v:Vw D L){nm b:List UInt8}(hg:l5 L nm=some b):
 aQ Tryz.prog 68 [.ptr 0 bd [] 0,.s nm] (dk bd bm D) (fun r os=>∃D',Vw D' (jc L nm)∧D'.room=D.room∧r= .i .i64 0∧os=dk bd bm D'):=by
 obtain⟨f,hf,_⟩:=v.some hg
 exact(AH bd bm D nm v.ok v.dead v.fuse f hf).mono (fun r os ⟨h1,h2⟩=>⟨_,(v.rem nm).1,(v.rem nm).2,h1,h2⟩)
theorem J1{p:Nat×List (List UInt8)}{l:List (Nat×List (List UInt8))}{O:List (List UInt8×List UInt8)}(hr:((p::l).map (·.1)).Pairwise (·<·))(hl:∀q∈p::l,q.1<10000000000)(hO:∀k∈eN O,kT k=none):jc (de (p::l)++O) (ci p.1)=de l++O:=by
 have hp:=hl p (List.mem_cons_self ..)
 unfold jc
 show List.filter _ ((ci p.1,fj p.2)::(de l++O))=_
 rw[List.filter_cons_of_neg (by simp)]
 refine List.filter_eq_self.2 (fun x hx=>decide_eq_true (fun e=>?_))
 rcases List.mem_append.1 hx with hx|hx
 ·unfold de at hx
  obtain⟨q,hq,rfl⟩:=List.mem_map.1 hx
  have h1:=pU (hl q (List.mem_cons_of_mem _ hq)) hp e
  rw[List.map_cons] at hr
  have h2:=(List.pairwise_cons.1 hr).1 q.1 (List.mem_map.2 ⟨q,hq,rfl⟩)
  omega
 ·have h1:=hO x.1 (List.mem_map.2 ⟨x,hx,rfl⟩)
  rw[e,kM hp] at h1
  cases h1
theorem DA(bd bm bj:Nat)(D:ez)(l:List (Nat×List (List UInt8)))(O:List (List UInt8×List UInt8))(now:Nat)(v:Vw D (de l++O))(hr:(l.map (·.1)).Pairwise (·<·))(hl:∀p∈l,p.1<now)(hw:now<10000000000)(hO:∀k∈eN O,kT k=none)(hn:D.fs.length≤1000000):
 aQ Tryz.prog 51 [.ptr 3 bj [] 0,.i .i64 now] (dk bd bm D++[eC bd bj now]) (fun r os=>∃D',Vw D' O∧D'.room=D.room∧r= .i .i64 0∧os=dk bd bm D'++[eC bd bj now]):=by
 have hll:∀p∈l,p.1<10000000000:=fun p hp=>Nat.lt_trans (hl p hp) hw
 have kdd:=lK bd D.room D.fuse (.map (some bm)) D.dead
 have ksg:=sK bd bm D v.ok hn
 rw[CY v hr hll hO] at ksg
 have hL:∀D:ez,dk bd bm D=[.var bd (cO bm D),.obj bm (cV D.es D.clk),bL (D.fs.map bZ.O)]:=fun _=>rfl
 have hL4:∀D:ez,dk bd bm D++[eC bd bj now]=[.var bd (cO bm D),.obj bm (cV D.es D.clk),bL (D.fs.map bZ.O),.var bj (.agg [.ptr 0 bd [] 0,.i .i64 now])]:=fun _=>rfl
 have kdd:aQ Tryz.prog 35 [.ptr 0 bd [] 0] [.var bd (cO bm D)] (fun r os=>r= .b D.dead∧os=[.var bd (cO bm D)]):=kdd
 rw[v.dead] at kdd
 have hlen:(l.map (·.1)).length≤1000000:=by
  have h1:=v.len
  rw[List.length_append] at h1
  unfold de at h1
  rw[List.length_map] at h1 ⊢
  omega
 simp only[hL4]
 rw[hL] at ksg
 have hli:(l.map (·.1)).length=l.length:=List.length_map ..
 refine aA ab [(0,.var bd (cO bm D)),(1,.obj bm (cV D.es D.clk)),(2,bL (D.fs.map bZ.O)),(3,.var bj (.agg [.ptr 0 bd [] 0,.i .i64 now]))] Tryz.func51 Z Tryz.ntmps51 aN Z Z (fun C=>?_) Z
 repeat' (first|refine ae ?_|refine aj ?_|refine aa ?_|refine ac (ax ?_)|refine ah (ax ?_)|refine br Z ab Z Z Z (fun _=>?_)|refine aU ab (fun _=>?_)|refine aB Z ?_|refine bk [] [0] [0] Z kdd ⟨af,J⟩ Z dD Z Z ?_|refine bk [] [0,1,2] [0,1,2] Z ksg ⟨af,J⟩ Z dD Z Z ?_)
 refine aO (fun q:Nat×ez=>⟨45,[(19,.i .i64 q.1),(18,.i .i64 (l.map (·.1)).length),(17,.sl 1 ((l.map (·.1)).map Dh)),(0,.ptr 3 bj [] 0),(1,.i .i64 now)],[(0,.var bd (cO bm q.2)),(1,.obj bm (cV q.2.es q.2.clk)),(2,bL (q.2.fs.map bZ.O)),(3,.var bj (.agg [.ptr 0 bd [] 0,.i .i64 now]))]⟩) (fun q=>q.1≤l.length∧Vw q.2 (de (l.drop q.1)++O)∧q.2.room=D.room) (fun q=>l.length - q.1) [] (0,D) ⟨Nat.zero_le _,v,rfl⟩ ?_ ?_
 ·exact⟨rfl,⟨ai Z,ai Z,ay Z,af,ai Z,J⟩,az 0 Z (az 1 Z (az 2 Z (az 3 Z .nil)))⟩
 clear ksg kdd
 rintro⟨i,E⟩ ⟨hi,hv,hrm⟩
 dsimp only at hi hv hrm ⊢
 by_cases hlt:i<l.length
 ·have hdr:=List.drop_eq_getElem_cons hlt
  rw[hdr] at hv
  have hp1:=hl l[i] (List.getElem_mem hlt)
  have hrr:((l[i]::l.drop (i+1)).map (·.1)).Pairwise (·<·):=by rw[←hdr];exact hr.sublist ((List.drop_sublist i l).map _)
  have hlr:∀q∈l[i]::l.drop (i+1),q.1<10000000000:=fun q hq=>by rw[←hdr] at hq;exact hll q (List.mem_of_mem_drop hq)
  have hde:=J1 hrr hlr hO
  have hnk:=pT l[i].1 (by omega)
  have hlk:l5 (de (l[i]::l.drop (i+1))++O) (ci l[i].1)=some (fj l[i].2):=by
   show (if ci l[i].1=ci l[i].1 then _ else _)=_
   rw[if_pos Z]
  have hrv:=sW bd bm hv hlk
  rw[hde,hL] at hrv
  have hlt2:i<(l.map (·.1)).length:=by rw[hli];exact hlt
  have hgi:l[i].1=(l.map (·.1))[i]:=(List.getElem_map ..).symm
  rw[hgi] at hp1 hnk hrv
  generalize (l.map (·.1))=Ls at*
  repeat' (first|refine ae ?_|refine aj ?_|refine aa ?_|refine ac (ax ?_)|refine ac (db ?_)|refine ah (ax ?_)|(refine bc Z Z Z Z ?_ ?_;omega)|refine aU ab (fun _=>?_)|(refine aK Z ab Z Z Z Z Z Z ?_ (aE ?_) ?_;omega;omega)|(fail_if_success (refine aM Z cM ?_));(refine aV Z Z (fun hc=>?_) (fun hc=>?_)<;>try omega)|refine aB Z ?_|(refine ao Z (fun hc=>?_) (fun hc=>?_))<;>try omega|(refine bF Z (fun hc=>?_) (fun hc=>?_))<;>try omega|refine cg 7 [0,1,2] [] [] [0,1,2,4,3,5,6,7] aN aN aN Z Z Z ?_|(refine bx [] [0,1,2] [0,1,2] Z hrv ⟨af,aP,J⟩ Z dD Z Z ?_;rintro _ _ ⟨E2,hE2,hR2,rfl,rfl⟩;refine⟨_,rfl,rfl,?_⟩)|refine au Z (hnk) ⟨aP,J⟩ Z ?_)
  all_goals
   exact⟨(i+1,E2),[],⟨by show i+1≤l.length;omega,hE2,hR2.trans hrm⟩,by show l.length - (i+1)<l.length - i;omega,rfl,⟨ai (by show (i:Int)+1=((i+1:Nat):Int);omega),ai Z,ay Z,af,ai Z,J⟩,az 0 Z (az 1 Z (az 2 Z (az 3 Z .nil)))⟩
 ·rw[List.drop_of_length_le (by omega)] at hv
  repeat' (first|refine ae ?_|refine aa ?_|refine ac (ax ?_)|refine aw (ax ?_)|refine ap (bC ?_)|refine aU ab (fun _=>?_)|(refine ao Z (fun hc=>?_) (fun hc=>?_))<;>try omega)
  all_goals
   exact aH [] [(0,_),(1,_),(2,_),(3,_)] (.i .i64 0) Z (bX (am Z) Z) (az 0 Z (az 1 Z (az 2 Z (az 3 Z .nil)))) ⟨E,hv,hrm,rfl,rfl⟩
end Go.Proofs.YtginkbjclkdglaaGreat
