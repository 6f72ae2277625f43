/- law13.StoreHalves returns true: what lies from a key on, and what lies below it, is all. For every input, no condition. -/
import Derived.Test.YtginkbjclkdglaaGreatRows
import Derived.Test.YtginkbjclkdglaaGreatSQ7
import Derived.Test.YtginkbjclkdglaaGreatSh
import Derived.ProofKit
import Derived.OpenShut
import Derived.ShutString
import Derived.ChangeOld
namespace Go.Proofs.YtginkbjclkdglaaGreat.storeHalvesDone
open Go.ChangeShapes Go.WideShapes Go.ChangeAt Go.RowKit
theorem own:ownKnob Tryz.prog.godebug=none:=by kernel_rfl
theorem mN:laidOutB Tryz.prog=true:=by kernel_rfl
theorem ny{x:AV}(h:xf (.agg [.s,.s,.b]) x):∃e:aC,x=eA e∧True:=by
 obtain⟨xs,rfl,y0,ys,rfl,h0,y1,ys,rfl,h1,y2,ys,rfl,h2,rfl⟩:=h
 obtain⟨k,rfl,_⟩:=gj h0
 obtain⟨v,rfl,_⟩:=gj h1
 obtain⟨g,rfl⟩:=h2
 exact⟨⟨k,v,g⟩,rfl,trivial⟩
theorem rT{x:AV}(h:xf (.agg [.i .i64,.sl 3 (.agg [.s,.s,.b]),.s,.s,.s,.i .i64,.sl 1 (.i .i64)]) x):∃a:mr,x=qg a∧a.l.length≤9223372036854775807:=by
 obtain⟨xs,rfl,y0,ys,rfl,h0,y1,ys,rfl,h1,y2,ys,rfl,h2,y3,ys,rfl,h3,y4,ys,rfl,h4,y5,ys,rfl,h5,y6,ys,rfl,h6,rfl⟩:=h
 obtain⟨kind,rfl,_⟩:=gH h0
 obtain⟨l,rfl,hl,_⟩:=iu (f:=eA) (fun x hx=>ny hx) h1
 obtain⟨key,rfl,_⟩:=gj h2
 obtain⟨fr,rfl,_⟩:=gj h3
 obtain⟨to,rfl,_⟩:=gj h4
 obtain⟨arm,rfl,_⟩:=gH h5
 obtain⟨keeps,rfl,_,_⟩:=iu (f:=AV.i .i64) (fun x hx=>gH hx) h6
 exact⟨⟨kind,l,key,fr,to,arm,keeps⟩,rfl,hl⟩
set_option maxRecDepth 100000 in
theorem vW(os:Os)(started:os.Started)(H:Type)(enc:TypeId×Value→H):
 ReturnsInHanded {} Tryz.checked os 4 .any (Rows.storeHalvesSpec.pre6 enc Tryz.prog Tryz.f4 Rows.storeHalvesRow.domain false) (Rows.storeHalvesSpec.post enc Tryz.prog Tryz.f4 false true false false):=by
 refine returnsInHanded_of_change (C:=Tryz.checked) own started (by kernel_rfl) Tryz.func4
  (ChangeSpec.witness6 (enc:=enc) (C:=Tryz.checked) false ⟨#[],#[.slice none 0 0,.string ByteArray.empty],[]⟩ 8 (by kernel_rfl) (by kernel_rfl) (by kernel_rfl) (by kernel_rfl)) ?_
 intro W base args ds gs before hval0 hW _ _
 have hval:∀(j:Nat) t v,Tryz.f4.params[j]?=some t→args[j]?=some v→Value.okWide Tryz.prog W .any base t v:=hval0
 have hW':=hW
 obtain⟨p,q,hA0,hV,rfl,hfz,hnd⟩:=hW
 have hA:DataW.TrodAll enc Tryz.prog W 0 (fun _=>true) true Tryz.f4.params.toList args.toList ds p:=hA0
 rw[Tryz.params4] at hA hval
 obtain⟨v0,vs0,d0,ds0,p0,q0,hargs,rfl,rfl,h0,r0⟩:=trodAll_cons hA
 obtain⟨v1,vs1,d1,ds1,p1,q1,rfl,rfl,rfl,h1,r1⟩:=trodAll_cons r0
 obtain⟨rfl,rfl,rfl⟩:=trodAll_nil r1
 obtain rfl:args=#[v0,v1]:=by cases args;simp_all
 obtain⟨rfl,rfl⟩:=trodVars_none hV
 have k0:=h0
 have lt0:∀x∈p0,x.block<W.heap.size:=by obtain⟨m,hm⟩:=k0;exact DataW.trod_lt m _ _ _ hm
 have k1:=h1
 have lt1:∀x∈p1,x.block<W.heap.size:=by obtain⟨m,hm⟩:=k1;exact DataW.trod_lt m _ _ _ hm
 obtain⟨a0,s0,m0⟩:=nh ab 9 (sh:=.sl 7 (.agg [.i .i64,.sl 3 (.agg [.s,.s,.b]),.s,.s,.s,.i .i64,.sl 1 (.i .i64)])) Z (hval 0 22 v0 Z Z) h0
 obtain⟨a1,s1,m1⟩:=nh ab 9 (sh:=.s) Z (hval 1 9 v1 Z Z) h1
 obtain⟨acts,rfl,_,hal⟩:=iu (f:=qg) (fun x hx=>rT hx) s0
 obtain⟨key,rfl,_⟩:=gj s1
 clear hA0 hval0
 refine(zo (xg acts key hal) (jY m0 (jY m1 sO))).mono fun e W' ⟨he,bel⟩=>?_
 subst he
 exact⟨_,rfl,_,_,_,[],_,[],hW',trodAll_mk1 (shut_bool Tryz.underlying4 _),(trodAll_cons_mk (Below.trod mN (by kernel_rfl) (of_decide_eq_true (by kernel_rfl)) k0 bel lt0) (trodAll_cons_mk (Below.trod mN (by kernel_rfl) (of_decide_eq_true (by kernel_rfl)) k1 bel lt1) trodAll_mk0)),rfl,bel.frame _,fun h=>by cases h⟩
theorem HD:Rows.storeHalvesRow.holds Tryz.pinned (OpenSpec.ofChange Rows.storeHalvesSpec):=
 OpenClaim.holds_of_wide 4 Tryz.f4 Z Z Z Z Z Z Z ⟨rfl,rfl,rfl,rfl,rfl⟩ Z Z Z Z Z (by kernel_rfl) Tryz.func4 (by kernel_rfl)
  (of_decide_eq_true (by kernel_rfl)) (by unfold Func.isWrapper;first|(rw[if_pos (by decide+kernel)];kernel_rfl)|(rw[if_neg (by decide+kernel)];exact⟨rfl,rfl⟩))
  (fun os started H enc _=>vW os started H enc)
theorem proved:Rows.StoreHalvesSaid:=HD
end Go.Proofs.YtginkbjclkdglaaGreat.storeHalvesDone
