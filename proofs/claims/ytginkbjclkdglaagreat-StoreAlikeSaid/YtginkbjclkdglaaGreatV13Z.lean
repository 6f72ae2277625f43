/- The rules of rows, bytes and structs in the shape in which the proofs take them. No program in sight. -/
import Derived.Test.YtginkbjclkdglaaGreatV11Z
import Derived.Lib.AppendStr
import Derived.Laws.Pointers
import Derived.ChangeKeysEq
import Derived.Laws.StructEq
import Derived.Test.YtginkbjclkdglaaGreatProg
import Derived.Test.YtginkbjclkdglaaGreatV2Z
namespace Go.Proofs.YtginkbjclkdglaaGreat
open Go Go.RowKit
section
variable {m:OM} {P:Program} {T:List (Nat×TI)} {C:il} {ops:Array Oper} {l:List Oper} {K:St→Prop} {n:Nat} {sl:List (Nat×AV)} {hp:List (Nat×HO)} {d:Nat} {ty:Nat} {pos:String} {aft:Array Edge} {gd:Option (Nat×Bool)}
theorem bH(hT:cP P T)(hw:cH ops ⟨n,sl,hp⟩ gd=bE gd){x y:Operand}{t e sz0 by0:Nat}{z0:AV}{tk:TK}{sz bs:Nat}{z:AV}{k:Nat}{v:Value}{xs ys:List AV}{p:Prop}{hp':Value→List (Nat×HO)}
 (ht:bI T t=some ⟨.slice e,sz0,by0,z0⟩)(he:bI T e=some ⟨tk,sz,bs,z⟩)(hz:z.isVal=true)(hsz:gz z=sz)(hpos:Nat.blt 0 sz=true)
 (hx:ev ⟨n,sl,hp⟩ x= .own k v)(hg:bU hp k=some (.row v e sz xs))(hy:tM hp (ev ⟨n,sl,hp⟩ y)=some (p,sz,ys))(hp0:p)
 (hd:Nat.blt d n=true)(hm:m.oke (some d) [k]=true)(hh:∀v',fG (eT hp k (.row v' e sz (xs++ys)))=some (hp' v'))(hlen:(xs.length+ys.length)*bs≤140737488355328)(hlen2:xs.length+ys.length≤9223372036854775807)
 (h:∀v',aq m P C ops l ⟨n,(d,.own k v')::sl,hp' v'⟩ K):aq m P C ops (⟨some d,.call ⟨.builtin .append,#[x,y],#[t,t]⟩,ty,pos,aft,gd⟩::l) ⟨n,sl,hp⟩ K:=
 aq.append hT hw ht he hz hsz (pG hpos) hx hg hy hp0 hd hm hlen hlen2 (fun v'=>by
  have:=h v'
  rw[←ew _ _ (hh v')] at this
  exact this)
theorem aI(hT:cP P T)(hw:cH ops ⟨n,sl,hp⟩ gd=bE gd){t e sz0 by0:Nat}{z0:AV}{tk:TK}{sz bs:Nat}{z:AV}{len:Nat}{parts:Array (Nat×Operand)}{xs0 xs:List AV}
 (ht:bI T t=some ⟨.slice e,sz0,by0,z0⟩)(he:bI T e=some ⟨tk,sz,bs,z⟩)(hz:z.isVal=true)(hsz:gz z=sz)(hpos:Nat.blt 0 sz=true)
 (hp0:oc ⟨n,sl,hp⟩ 0 parts.toList=some xs0)(hfx:lw xs0=some xs)(hn:xs.length=len)(hle:Nat.ble (len*sz) 16777216=true)(hd:Nat.blt d n=true)
 (hall:Fo sz xs)(h:∀v',aq m P C ops l ⟨n,(d,.own d v')::sl,(d,.row v' e sz xs)::hp⟩ K):aq m P C ops (⟨some d,.buildSlice t len parts,ty,pos,aft,gd⟩::l) ⟨n,sl,hp⟩ K:=by
 have:=om _ _ hfx
 subst this
 exact aq.buildSlice hT hw ht he hz hsz (pG hpos) hp0 hn hall (Nat.le_of_ble_eq_true hle) hd h
theorem bD(hT:cP P T)(hw:cH ops ⟨n,sl,hp⟩ gd=bE gd){t:Nat}{x ix:Operand}{k:Nat}{v:Value}{e0 sz:Nat}{xs:List AV}{i:Int}{kk:IntKind}{e sz0 by_:Nat}{z:AV}{te:TI}
 (hx:ev ⟨n,sl,hp⟩ x= .own k v)(hg:bU hp k=some (.row v e0 sz xs))(hi:ev ⟨n,sl,hp⟩ ix= .i kk i)(ht:bI T t=some ⟨.slice e,sz0,by_,z⟩)(he:bI T e=some te)(hsz:te.sz=sz)
 (hd:Nat.blt d n=true)(j:Nat)(hj:i=j)(hn:j<xs.length)(h:∀b,v.ownBlock=some b→aq m P C ops l ⟨n,(d,.ptr k b [j] (j*sz))::sl,hp⟩ K):aq m P C ops (⟨some d,.indexAddr t x ix,ty,pos,aft,gd⟩::l) ⟨n,sl,hp⟩ K:=by
 subst hj
 exact aq.indexOwn hT hw hx hg hi ht he hsz hd (by omega) (by omega) (fun b hb=>h b hb)
theorem bR(hT:cP P T)(hw:cH ops ⟨n,sl,hp⟩ gd=bE gd){t:Nat}{x:Operand}{k b i off o:Nat}{path:List Nat}{v:Value}{e sz:Nat}{xs:List AV}{x0 y:AV}{ti:TI}
 (hx:ev ⟨n,sl,hp⟩ x= .ptr k b (i::path) off)(hg:bU hp k=some (.row v e sz xs))(hm:m.okc (some d) (some (some k))=true)(hd:Nat.blt d n=true)(hb:v.ownBlock=some b)(hi:xs[i]?=some x0)(ht:bI T t=some ti)(hsub:jL path x0=some (o,y))(ho:i*sz+o=off)(hf:fits ti y)
 (h:aq m P C ops l ⟨n,(d,y)::sl,hp⟩ K):aq m P C ops (⟨some d,.load t x,ty,pos,aft,gd⟩::l) ⟨n,sl,hp⟩ K:=
 aq.loadRow hT hw hx hg hb hi hsub ho ht hf hm hd h
theorem bQ(hT:cP P T)(hw:cH ops ⟨n,sl,hp⟩ gd=bE gd){t:Nat}{x y:Operand}{k b i off o:Nat}{path:List Nat}{v:Value}{e sz:Nat}{xs:List AV}{x0 old u:AV}{ti:TI}{hp':List (Nat×HO)}
 (hx:ev ⟨n,sl,hp⟩ x= .ptr k b (i::path) off)(hg:bU hp k=some (.row v e sz xs))(hm:m.oke none [k]=true)(hu:CV.val_ (ev ⟨n,sl,hp⟩ y)=CV.pure u)(hy:u.isVal=true)(hb:v.ownBlock=some b)(hi:xs[i]?=some x0)(ht:bI T t=some ti)(hsub:jL path x0=some (o,old))(ho:i*sz+o=off)(hf:fits ti u)(hold:gz old=ti.sz)
 (hh:fG (eT hp k (.row v e sz (xs.set i (kJ path x0 u))))=some hp')(h:aq m P C ops l ⟨n,sl,hp'⟩ K):aq m P C ops (⟨none,.store t x y,ty,pos,aft,gd⟩::l) ⟨n,sl,hp⟩ K:=by
 rw[CV.val_eq] at hu
 have hu:ev ⟨n,sl,hp⟩ y=u:=by simpa [CV.pure] using hu
 subst hu
 exact aq.storeRow hT hw hx hg hb hi hsub ho ht hf hold hy hm (by rw[ew _ _ hh];exact h)
theorem AY(hT:cP P T)(hw:cH ops ⟨n,sl,hp⟩ gd=bE gd){t e sz0 by0:Nat}{z0:AV}{tk:TK}{sz bs:Nat}{z:AV}{x y:Operand}{kl kc:IntKind}{a b:Int}
 (ht:bI T t=some ⟨.slice e,sz0,by0,z0⟩)(he:bI T e=some ⟨tk,sz,bs,z⟩)(hz:z.isVal=true)(hsz:gz z=sz)(hpos:Nat.blt 0 sz=true)
 (hx:ev ⟨n,sl,hp⟩ x= .i kl a)(hy:ev ⟨n,sl,hp⟩ y= .i kc b)(hd:Nat.blt d n=true)(len:Nat)(ha:a=len)(hb:b=len)(hlen:bs*len≤281474976710656)(hlen2:len≤9223372036854775807)
 (h:∀v',aq m P C ops l ⟨n,(d,.own d v')::sl,(d,.row v' e sz (List.replicate len z))::hp⟩ K):aq m P C ops (⟨some d,.makeSlice t x y,ty,pos,aft,gd⟩::l) ⟨n,sl,hp⟩ K:=by
 subst ha;subst hb
 exact aq.makeSlice hT hw ht he hz hsz (pG hpos) hx hy hlen hlen2 hd h
theorem fy(hT:cP P T)(hw:cH ops ⟨n,sl,hp⟩ gd=bE gd){src dst e:Nat}{x:Operand}{s:List UInt8}{k1:TI}{sz0 by0:Nat}{z0:AV}{sz1 by1:Nat}{z1:AV}
 (hx:ev ⟨n,sl,hp⟩ x= .s s)(h1:bI T src=some k1)(h2:bI T dst=some ⟨.slice e,sz0,by0,z0⟩)(h3:bI T e=some ⟨.int .u8,sz1,by1,z1⟩)
 (hd:Nat.blt d n=true)(h:aq m P C ops l ⟨n,(d,.sl 1 (s.map gy))::sl,hp⟩ K):aq m P C ops (⟨some d,.convert src dst x,ty,pos,aft,gd⟩::l) ⟨n,sl,hp⟩ K:=
 aq.toBytes hT hw hx h1 h2 h3 hd h
theorem dJ(hT:cP P T)(hw:cH ops ⟨n,sl,hp⟩ gd=bE gd){src dst e:Nat}{x:Operand}{xs:List AV}{s:List UInt8}{p:Prop}{sz0 by0:Nat}{z0:AV}{sz1 by1:Nat}{z1:AV}{sz2 by2:Nat}{z2:AV}{rd:Option (Option Nat)}
 (h1:bI T src=some ⟨.slice e,sz0,by0,z0⟩)(h2:bI T dst=some ⟨.string,sz2,by2,z2⟩)(h3:bI T e=some ⟨.int .u8,sz1,by1,z1⟩)(hx:tM hp (ev ⟨n,sl,hp⟩ x)=some (p,1,xs))(hp0:p)(hrd:Lp (ev ⟨n,sl,hp⟩ x)=rd)(hm:m.okc (some d) rd=true)
 (hd:Nat.blt d n=true)(hxs:xs=s.map gy)(h:aq m P C ops l ⟨n,(d,.s s)::sl,hp⟩ K):aq m P C ops (⟨some d,.convert src dst x,ty,pos,aft,gd⟩::l) ⟨n,sl,hp⟩ K:=by
 subst hxs
 exact aq.toString hT hw hx hp0 h1 h2 h3 rd hrd hm hd h
theorem cd(hT:cP P T)(hw:cH ops ⟨n,sl,hp⟩ gd=bE gd){t:Nat}{fs:List (Nat×Nat)}{sz by_:Nat}{zs res res':List AV}{parts:Array (Nat×Operand)}{p:Prop}
 (ht:bI T t=some ⟨.struct fs,sz,by_,.agg zs⟩)(hb:L0 T fs (parts.toList.map fun q=>(q.1,ev ⟨n,sl,hp⟩ q.2)) zs=some (p,res))(hf:lw res=some res')(hall:fs.all (fun q=>(bI T q.2).isSome)=true)
 (hd:Nat.blt d n=true)(hp0:p)(h:aq m P C ops l ⟨n,(d,.agg res')::sl,hp⟩ K):aq m P C ops (⟨some d,.build t parts,ty,pos,aft,gd⟩::l) ⟨n,sl,hp⟩ K:=by
 have:=om _ _ hf
 subst this
 exact aq.build hT hw ht hb hp0 (fun q hq=>List.all_eq_true.1 hall q hq) hd h
theorem gE(hT:cP P T)(hw:cH ops ⟨n,sl,hp⟩ gd=bE gd){t:Nat}{x ix:Operand}{s:List UInt8}{c:UInt8}{i:Int}{kk:IntKind}{sz0 by_:Nat}{z:AV}
 (hx:ev ⟨n,sl,hp⟩ x= .s s)(hi:ev ⟨n,sl,hp⟩ ix= .i kk i)(ht:bI T t=some ⟨.string,sz0,by_,z⟩)(hd:Nat.blt d n=true)(h0:0≤i)(hy:s[i.toNat]?=some c)
 (h:aq m P C ops l ⟨n,(d,.i .u8 c.toNat)::sl,hp⟩ K):aq m P C ops (⟨some d,.index t x ix,ty,pos,aft,gd⟩::l) ⟨n,sl,hp⟩ K:=
 aq.indexStr hT hw hx hi ht hd h0 hy h
theorem da{S:St}{n:Nat}:si S none n n:=rfl
theorem cn{S:St}{x:Operand}{k:IntKind}{i:Int}{dflt n:Nat}(hx:ev S x= .i k i)(h:i=n):si S (some x) dflt n:=⟨k,by rw[hx,h]⟩
theorem dK(hT:cP P T)(hw:cH ops ⟨n,sl,hp⟩ gd=bE gd){t:Nat}{x:Operand}{lo hi:Option Operand}{s:List UInt8}(i j:Nat){sz0 by_:Nat}{z:AV}
 (hx:ev ⟨n,sl,hp⟩ x= .s s)(ht:bI T t=some ⟨.string,sz0,by_,z⟩)(hd:Nat.blt d n=true)(hlo:si ⟨n,sl,hp⟩ lo 0 i)(hhi:si ⟨n,sl,hp⟩ hi s.length j)(hij:i≤j)(hj:j≤s.length)
 (h:aq m P C ops l ⟨n,(d,.s ((s.take j).drop i))::sl,hp⟩ K):aq m P C ops (⟨some d,.slice t x lo hi none,ty,pos,aft,gd⟩::l) ⟨n,sl,hp⟩ K:=
 aq.sliceStr hT hw i j hx hlo hhi ht hd hij hj h
theorem d5(hT:cP P T)(hw:cH ops ⟨n,sl,hp⟩ gd=bE gd){t:Nat}{x:Operand}{lo hi:Option Operand}{sz:Nat}{α:Type}{f:α→AV}{xs:List α}(i j:Nat){e sz0 by_:Nat}{z:AV}{te:TI}
 (hx:ev ⟨n,sl,hp⟩ x= .sl sz (xs.map f))(ht:bI T t=some ⟨.slice e,sz0,by_,z⟩)(he:bI T e=some te)(hsz:te.sz=sz)(hd:Nat.blt d n=true)(hlo:si ⟨n,sl,hp⟩ lo 0 i)(hhi:si ⟨n,sl,hp⟩ hi xs.length j)(hij:i≤j)(hj:j≤xs.length)
 (h:aq m P C ops l ⟨n,(d,.sl sz (((xs.take j).drop i).map f))::sl,hp⟩ K):aq m P C ops (⟨some d,.slice t x lo hi none,ty,pos,aft,gd⟩::l) ⟨n,sl,hp⟩ K:=
 aq.sliceSl hT hw i j hx hlo (by rw[List.length_map];exact hhi) ht he hsz hd hij (by rw[List.length_map];exact hj) (by
  rw[←List.map_take,←List.map_drop];exact h)
end
section
variable {m:OM} {P:Program} {T:List (Nat×TI)} {C:il} {ops:Array Oper} {l:List Oper} {K:St→Prop} {n:Nat} {sl:List (Nat×AV)} {hp:List (Nat×HO)} {d:Nat} {ty:Nat} {pos:String} {aft:Array Edge} {gd:Option (Nat×Bool)}
theorem iM(hw:cH ops ⟨n,sl,hp⟩ gd=bE gd)(hT:cP P T){s t:Nat}{x:Operand}{kk:IntKind}{a:Int}{k1:TI}{sz1 by1:Nat}{z1:AV}(hx:ev ⟨n,sl,hp⟩ x= .i kk a)(h1:bI T s=some k1)(h2:bI T t=some ⟨.int .i64,sz1,by1,z1⟩)
 (hd:Nat.blt d n=true)(hr: -9223372036854775808≤a∧a≤9223372036854775807)(h:aq m P C ops l ⟨n,(d,.i .i64 a)::sl,hp⟩ K):aq m P C ops (⟨some d,.convert s t x,ty,pos,aft,gd⟩::l) ⟨n,sl,hp⟩ K:=by
 refine iU hT hw (x:=.i .i64 a) (need:=True) (gain:=True) (rd:=none) ?_ cT hd trivial (fun _=>h)
 simp only[cv,hx,wt,h1,h2,CV.pure,qt _ hr]
theorem gW(hw:cH ops ⟨n,sl,hp⟩ gd=bE gd)(hT:cP P T){s t:Nat}{x:Operand}{kk:IntKind}{c:UInt8}{k1:TI}{sz1 by1:Nat}{z1:AV}(hx:ev ⟨n,sl,hp⟩ x= .i kk (c.toNat:Int))(h1:bI T s=some k1)(h2:bI T t=some ⟨.int .i64,sz1,by1,z1⟩)
 (hd:Nat.blt d n=true)(h:aq m P C ops l ⟨n,(d,.i .i64 (c.toNat:Int))::sl,hp⟩ K):aq m P C ops (⟨some d,.convert s t x,ty,pos,aft,gd⟩::l) ⟨n,sl,hp⟩ K:=by
 have hc:=c.toNat_lt
 exact iM hw hT hx h1 h2 hd (by omega) h
end
section
variable {m:OM} {P:Program} {T:List (Nat×TI)} {C:il} {S:St} {a:Act} {w:World} {ops:Array Oper} {l:List Oper} {K:St→Prop} {d:Nat} {ty:Nat} {pos:String} {aft:Array Edge} {gd:Option (Nat×Bool)}
theorem C4{F:Nat→Prop}(s:List UInt8):dq w F 1 (s.map gy) (Lib.strCells (bf s)):=by
 have h:Lib.strCells (bf s)=s.map fun c=>Value.int .u8 (c.toNat:Int):=rfl
 rw[h]
 clear h
 induction s with
 |nil=>simp only[List.map_nil,dq]
 |cons c s ih=>
  simp only[List.map_cons,dq]
  exact⟨[.int .u8 c.toNat],_,rfl,by simp only[gy,bw],rfl,ih⟩
theorem xp{t ts e:Nat}{i:TypeInfo}(ut:P.underlying t=some (.slice e))(us:P.underlying ts=some .string)(hi:P.info? e=some i)(hz:i.zero=some (.int .u8 0))(hz1:i.size=1)(hz2:i.bytes=1)(ty:Nat){v:Value}{n:Nat}{xs:List Value}(hown:w.ownsRow 0 e 1 v n xs)(s:ByteArray)(hlen:n+s.size≤140737488355328):
 ∃v' w',(Builtin.append_ #[t,ts] ty #[v,.string s]).run P w= .ok v' w'∧w'.ownsRow 0 e 1 v' (n+s.size) (xs++Lib.strCells s)∧w.grownBy w' v.ownBlock∧(v'.ownBlock=v.ownBlock∨v'.ownBlock=some w.heap.size):=by
 have hm:n+s.size≤maxLen:=by unfold maxLen;omega
 obtain⟨v',w',hr,h2,h3,h4⟩:=Lib.run_append_own_string (P:=P) w 0 t ts ty e i ut us hi hz hz1 hz2 v n xs hown s hm hlen (Nat.zero_le _)
 refine⟨v',w',hr,h2,h3,?_⟩
 have hxl:xs.length=n:=by simpa using hown.1
 rcases hown.2 with ⟨rfl,h0⟩|⟨g,cap,cur,rfl,_,hg,hnc,hcm,hcs,htake⟩
 ·by_cases hs:s.size=0
  ·exact .inl (by rw[h4.2 ⟨rfl,hs⟩])
  ·have hr2:=run_append_nil_string (P:=P) w t ts ty e i (.int .u8 0) ut us hi hz s (by omega) (by omega) (by rw[hz2];omega)
   rw[hr2] at hr;injection hr with e1 e2
   exact .inr (by rw[←e1];rfl)
 ·by_cases hroom:n+s.size≤cap
  ·have hr2:=Lib.run_append_room_string (P:=P) w t ts ty e i ut us hi hz1 g n cap cur hg s hroom (by rw[hcs];omega)
   rw[hr2] at hr;injection hr with e1 e2
   exact .inl (by rw[←e1];rfl)
  ·have holds:∀j u,xs[j]?=some u→w.cell? ((⟨g,0,none⟩:Addr).add j)=some u:=World.ownsRow.cells hown (g:=g) Z
   have hr2:=Lib.run_append_grow_string (P:=P) w t ts ty e i (.int .u8 0) ut us hi hz ⟨g,0,none⟩ n cap xs (by rw[hz1];omega) holds s (by omega) (by omega) (growslice_fits (by omega) (by rw[hz2];omega))
   rw[hr2] at hr;injection hr with e1 e2
   exact .inr (by rw[←e1];rfl)
theorem aq.appendStr(hT:cP P T)(hw:cH ops S gd=bE gd){x y:Operand}{t ts e sz0 by0 sz1 by1:Nat}{z0 z1:AV}{k:Nat}{v:Value}{xs:List AV}{s:List UInt8}
 (ht:bI T t=some ⟨.slice e,sz0,by0,z0⟩)(hts:bI T ts=some ⟨.string,sz1,by1,z1⟩)(he:bI T e=some ⟨.int .u8,1,1,.i .u8 0⟩)
 (hx:ev S x= .own k v)(hg:bU S.heap k=some (.row v e 1 xs))(hy:ev S y= .s s)
 (hd:Nat.blt d S.n=true)(hm:m.oke (some d) [k]=true)(hlen:xs.length+s.length≤140737488355328)
 (h:∀v',aq m P C ops l ⟨S.n,(d,.own k v')::S.slots,eT S.heap k (.row v' e 1 (xs++s.map gy))⟩ K):aq m P C ops (⟨some d,.call ⟨.builtin .append,#[x,y],#[t,ts]⟩,ty,pos,aft,gd⟩::l) S K:=by
 refine eD hw [k] hm Z fun a w hs=>?_
 obtain⟨i,hi,h2,h3⟩:=(aX hT he).inf
 have hz:i.zero=some (.int .u8 0):=by
  rcases (aX hT he).zero with h0|⟨cs,h4,h5⟩
  ·cases h0
  ·rw[hi] at h5
   simp only[gw,Option.some.injEq] at h4
   subst h4
   exact h5
 have Ex:=bg hs x
 rw[hx,cf] at Ex
 have Ey:=bg hs y
 rw[hy,gS] at Ey
 obtain⟨cells,h5,h6⟩:=hs.getHeap hg
 obtain⟨v',w',r1,r2,r3,r4⟩:=xp (ej (aX hT ht)) (eX (aX hT hts)) hi hz h2 h3 ty h6 (bf s) hlen
 have hsz:xs.length+(bf s).size=(xs++s.map gy).length:=by rw[List.length_append,List.length_map];rfl
 rw[hsz] at r2
 refine⟨v',w',_,.own k v',?_,hs.grown hg r3 (mH h5 (C4 s)) r2 r4,hd,cf.2 ⟨rfl,zb r2⟩,fV hg ((cD _ w).grown r3 (fun k hk _=>eY hk)) (fun b hb=>by
  have hb:v'.ownBlock=some b:=kH hb
  rcases r4 with h|h
  ·rw[h] at hb;exact .inl (eY hb)
  ·rw[h] at hb;injection hb with hb;exact .inr (by omega)),h v'⟩
 simp only[execOp,resolve,invoke,builtin,Sem.run_bind,Sem.run_pure,Result.andThen_ok,List.map_toArray,List.map_cons,List.map_nil,Ex.1,Ey.1,r1]
end
section
variable {m:OM} {P:Program} {T:List (Nat×TI)} {C:il} {ops:Array Oper} {l:List Oper} {K:St→Prop} {n:Nat} {sl:List (Nat×AV)} {hp:List (Nat×HO)} {d:Nat} {ty:Nat} {pos:String} {aft:Array Edge} {gd:Option (Nat×Bool)}
theorem jg(hT:cP P T)(hw:cH ops ⟨n,sl,hp⟩ gd=bE gd){x y:Operand}{t ts e sz0 by0 sz1 by1:Nat}{z0 z1:AV}{k:Nat}{v:Value}{xs:List AV}{s:List UInt8}{hp':Value→List (Nat×HO)}
 (ht:bI T t=some ⟨.slice e,sz0,by0,z0⟩)(hts:bI T ts=some ⟨.string,sz1,by1,z1⟩)(he:bI T e=some ⟨.int .u8,1,1,.i .u8 0⟩)
 (hx:ev ⟨n,sl,hp⟩ x= .own k v)(hg:bU hp k=some (.row v e 1 xs))(hy:ev ⟨n,sl,hp⟩ y= .s s)
 (hd:Nat.blt d n=true)(hm:m.oke (some d) [k]=true)(hh:∀v',fG (eT hp k (.row v' e 1 (xs++s.map gy)))=some (hp' v'))(hlen:xs.length+s.length≤140737488355328)
 (h:∀v',aq m P C ops l ⟨n,(d,.own k v')::sl,hp' v'⟩ K):aq m P C ops (⟨some d,.call ⟨.builtin .append,#[x,y],#[t,ts]⟩,ty,pos,aft,gd⟩::l) ⟨n,sl,hp⟩ K:=
 aq.appendStr hT hw ht hts he hx hg hy hd hm hlen (fun v'=>by
  have:=h v'
  rw[←ew _ _ (hh v')] at this
  exact this)
theorem vH(hT:cP P T)(hw:cH ops ⟨n,sl,hp⟩ gd=bE gd){t:Nat}{x ix:Operand}{key b:Nat}{i:Int}{kk:IntKind}{mlen e sz0 by_:Nat}{z:AV}{te:TI}
 (hx:ev ⟨n,sl,hp⟩ x= .ptr key b [] 0)(hi:ev ⟨n,sl,hp⟩ ix= .i kk i)(ht:bI T t=some ⟨.array mlen e,sz0,by_,z⟩)(he:bI T e=some te)
 (hd:Nat.blt d n=true)(j:Nat)(hj:i=j)(hn:j<mlen)(h:aq m P C ops l ⟨n,(d,.ptr key b [j] (j*te.sz))::sl,hp⟩ K):aq m P C ops (⟨some d,.indexAddr t x ix,ty,pos,aft,gd⟩::l) ⟨n,sl,hp⟩ K:=by
 subst hj
 refine aq.indexArr hT hw hx hi ht he hd (by omega) (by omega) ?_
 simp only[List.nil_append,Nat.zero_add,Int.toNat_natCast]
 exact h
theorem Dc(hT:cP P T)(hw:cH ops ⟨n,sl,hp⟩ gd=bE gd){t:Nat}{x y:Operand}{u:AV}{key b off j sz mlen:Nat}{xs:List AV}{old:AV}{ti:TI}{hp':List (Nat×HO)}
 (hx:ev ⟨n,sl,hp⟩ x= .ptr key b [j] off)(ht:bI T t=some ti)(hg:bU hp key=some (.var b (.arr sz mlen xs)))(ho:j*sz=off)(hu:ev ⟨n,sl,hp⟩ y=u)(hf:fits ti u)(hy:u.isVal=true)(hm:m.oke none [key]=true)
 (hj:xs[j]?=some old)(hold:gz old=ti.sz)
 (hh:eT hp key (.var b (.arr sz mlen (xs.set j u)))=hp')(h:aq m P C ops l ⟨n,sl,hp'⟩ K):aq m P C ops (⟨none,.store t x y,ty,pos,aft,gd⟩::l) ⟨n,sl,hp⟩ K:=by
 subst hu
 refine aq.store hT hw hx ht hg (o:=off) (old:=old) ?_ Z hf hold hy hm ?_
 ·simp only[jL,hj,Nat.add_zero,ho]
 ·subst hh;exact h
theorem mM(hT:cP P T)(hw:cH ops ⟨n,sl,hp⟩ gd=bE gd){t mlen e sz by_ sz2:Nat}{xs:List AV}{te:TI}(ht:bI T t=some ⟨.array mlen e,sz,by_,.arr sz2 mlen xs⟩)(he:bI T e=some te)(hd:Nat.blt d n=true)
 (h:aq m P C ops l ⟨n,(d,.arr sz2 mlen xs)::sl,hp⟩ K):aq m P C ops (⟨some d,.build t #[],ty,pos,aft,gd⟩::l) ⟨n,sl,hp⟩ K:=by
 refine eI (d:=some d) hw none cT hd Z (fun a w hs=>?_) h
 have h0:=aX hT ht
 rcases h0.zero with hz|⟨cs,h1,h2⟩
 ·cases hz
 ·obtain⟨it,hit,_,_⟩:=h0.inf
  obtain⟨ie,hie,_,_⟩:=(aX hT he).inf
  rw[hit] at h2
  have hzv:it.zero=some (ch (.arr sz2 mlen xs) cs):=h2
  have hrep:bw w (Fz C hp w) (.arr sz2 mlen xs) cs:=iw _ cs h1
  have hzc:(ch (.arr sz2 mlen xs) cs).cells=cs.toArray:=dV hrep
  refine⟨.agg cs.toArray,⟨cs,hrep,rfl⟩,fun w' _=>?_⟩
  have hbuilt:P.built t []=some cs.toArray:=by
   unfold Program.built
   rw[hit,m8 h0]
   simp[hzv,hie,hzc,Instr.fill]
  have:=run_build (P:=P) w' t #[] _ hbuilt
  simp only[execOp,Sem.run_bind,List.map_toArray,List.map_nil,this,Result.andThen_ok,Sem.run_pure]
theorem aM{dd:Option Tmp}{op:Op}{j:Nat}{g:Bool}{dj:Nat}(_hj:(ops[j]?).bind (·.dst)=some dj)(_hc:ge sl dj= .b true∨ge sl dj= .b false)(h:aq m P C ops (⟨dd,op,ty,pos,aft,some (j,g)⟩::l) ⟨n,sl,hp⟩ K):
 aq m P C ops (⟨dd,op,ty,pos,aft,some (j,g)⟩::l) ⟨n,sl,hp⟩ K:=h
end
section
variable {P:Program} {T:List (Nat×TI)} {w:World}
end
section
variable {m:OM} {P:Program} {T:List (Nat×TI)} {C:il} {S:St} {a:Act} {w:World} {ops:Array Oper} {l:List Oper} {K:St→Prop} {d:Nat} {ty:Nat} {pos:String} {aft:Array Edge} {gd:Option (Nat×Bool)}
end
section
variable {P:Program} {C:il} {S:St} {a:Act} {w:World} {K:Exit→St→Prop}
theorem ep.freezeV(h:ep C S a w){k d b:Nat}{c:AV}(hg:bU S.heap k=some (.var b c))(hd:S.slot d= .ptr k b [] 0):ep C ⟨S.n,(d,.cp c)::S.slots,dS S.heap k⟩ a w:=by
 obtain⟨j1,j2,j3⟩:=dl hg
 have h1:=h.del hg
 have hb:b∈cC S.heap:=fH hg (List.mem_singleton.2 Z)
 have hnb:b∉cC (dS S.heap k):=(j2 h.nd).2 b (List.mem_singleton.2 Z)
 have hF:∀b,Fz C S.heap w b→Fz C (dS S.heap k) w b:=fun b hb=>⟨hb.1,fun hin=>hb.2.1 (j1 b hin),hb.2.2⟩
 refine⟨h1.n,h1.df,fun i=>?_,h1.heap,h1.nd,h1.lt,h1.mod⟩
 have hslot:(⟨S.n,(d,AV.cp c)::S.slots,dS S.heap k⟩:St).slot i=if d=i then .cp c else S.slot i:=pY ⟨S.n,S.slots,dS S.heap k⟩ d i (.cp c)
 rw[hslot]
 by_cases hi:d=i
 ·subst hi
  rw[if_pos Z]
  have hs:=h.slots d
  rw[hd,dg] at hs
  obtain⟨t,cs,hB,hc⟩:=h.getHeap hg
  rw[hs]
  exact n0.2 ⟨b,0,cs.toList,rfl,⟨(h.lt b hb).1,hnb,.inr (h.lt b hb).2⟩,fO hF (fun _ _=>rfl) _ _ hc,fun j u hu=>by
   rw[Nat.zero_add,hB.cell]
   simpa using hu⟩
 ·rw[if_neg hi];exact h1.slots i
theorem qc{cc:Code}{n:Nat}{sl:List (Nat×AV)}{hp hp':List (Nat×HO)}(k d:Nat){b:Nat}{c:AV}(hg:bU hp k=some (.var b c))(hd:ge sl d= .ptr k b [] 0)(hh:dS hp k=hp')
 (h:ag P C cc ⟨n,(d,.cp c)::sl,hp'⟩ K):ag P C cc ⟨n,sl,hp⟩ K:=by
 subst hh
 exact⟨fun a w hs=>h.out a w (hs.freezeV (S:=⟨n,sl,hp⟩) hg hd)⟩
end
section
variable {m:OM} {P:Program} {T:List (Nat×TI)} {C:il} {ops:Array Oper} {l:List Oper} {K:St→Prop} {n:Nat} {sl:List (Nat×AV)} {hp:List (Nat×HO)} {d:Nat} {ty:Nat} {pos:String} {aft:Array Edge} {gd:Option (Nat×Bool)}
end
section
variable {m:OM} {P:Program} {T:List (Nat×TI)} {C:il} {S:St} {a:Act} {w:World} {ops:Array Oper} {l:List Oper} {K:St→Prop} {d:Nat} {ty:Nat} {pos:String} {aft:Array Edge} {gd:Option (Nat×Bool)}
end
section
variable {m:OM} {P:Program} {T:List (Nat×TI)} {C:il} {ops:Array Oper} {l:List Oper} {K:St→Prop} {n:Nat} {sl:List (Nat×AV)} {hp:List (Nat×HO)} {d:Nat} {ty:Nat} {pos:String} {aft:Array Edge} {gd:Option (Nat×Bool)}
end
def NJ(l:List UInt8):AV:=.arr 1 32 (l.map gy)
section
variable {m:OM} {P:Program} {T:List (Nat×TI)} {C:il} {ops:Array Oper} {l:List Oper} {K:St→Prop} {n:Nat} {sl:List (Nat×AV)} {hp:List (Nat×HO)} {d:Nat} {ty:Nat} {pos:String} {aft:Array Edge} {gd:Option (Nat×Bool)}
theorem fQ(hT:cP P T)(hw:cH ops ⟨n,sl,hp⟩ gd=bE gd){t u e:Nat}{x y:Operand}{key b off:Nat}{path:List Nat}{sz0 by0:Nat}{z0:AV}
 (hx:ev ⟨n,sl,hp⟩ x= .ptr key b path off)(hy:ev ⟨n,sl,hp⟩ y= .nilp)(ht:bI T t=some ⟨.ptr e,sz0,by0,z0⟩)(hd:Nat.blt d n=true)
 (h:aq m P C ops l ⟨n,(d,.b false)::sl,hp⟩ K):aq m P C ops (⟨some d,.binOp .eql t x y u,ty,pos,aft,gd⟩::l) ⟨n,sl,hp⟩ K:=by
 refine eI (d:=some d) hw none cT hd Z (fun a w hs=>?_) h
 have Ex:=bg hs x
 have Ey:=bg hs y
 rw[hx,dg] at Ex
 rw[hy] at Ey
 obtain⟨c2,hc2,Ey⟩:=Ey
 simp only[bw] at hc2
 subst hc2
 have hu:P.underlying t=some (.pointer e):=by
  obtain⟨ds,hds,hk⟩:=(aX hT ht).desc
  cases ds<;>simp[Cu] at hk;subst hk;exact hds
 have hp2:P.underlying t=some (.pointer (P.pointee t)):=by
  rw[hu];simp[Program.pointee,hu]
 refine⟨.bool false,gr.2 Z,fun w' _=>?_⟩
 have hr:=run_eql_pointer_nil (P:=P) (w:=w') t (some ⟨b,off,none⟩) hp2
 have Ey:a.eval y= .pointer none:=Ey
 have hg:(eqGuard .eql t x y (.pointer (some ⟨b,off,none⟩)) (.pointer none)).run P w'= .ok () w':=by simp[eqGuard]
 simp only[execOp,Ex,Ey,Sem.run_bind,hg,hr,Result.andThen_ok,Sem.run_pure]
 rfl
end
section
variable {P:Program} {w:World}
theorem qp{e:Nat}(he:P.underlying e=some (.int .u8))(hk:P.plainKey e=true)(d:Nat)(l1 l2:List UInt8):∀(is:List Nat),(∀i∈is,i<l1.length∧i<l2.length)→
 (Op.eqItems (d+1) e 1 (l1.map fun c=>Value.int .u8 (c.toNat:Int)).toArray (l2.map fun c=>Value.int .u8 (c.toNat:Int)).toArray is).run P w= .ok (is.all fun i=>l1[i]?==l2[i]?) w
 |[],_=>by simp[Op.eqItems]
 |i::is,h=>by
  obtain⟨h1,h2⟩:=h i (by simp)
  have ih:=qp he hk d l1 l2 is (fun j hj=>h j (by simp[hj]))
  have p1:=run_part_plain (P:=P) w hk (xs:=(l1.map fun c=>Value.int .u8 (c.toNat:Int)).toArray) (off:=i*1) (v:=.int .u8 (l1[i].toNat:Int)) (by simp[h1])
  have p2:=run_part_plain (P:=P) w hk (xs:=(l2.map fun c=>Value.int .u8 (c.toNat:Int)).toArray) (off:=i*1) (v:=.int .u8 (l2[i].toNat:Int)) (by simp[h2])
  have p3:=run_equalIn_int (P:=P) w d e .u8 .u8 (l1[i].toNat:Int) (l2[i].toNat:Int) he
  simp only[Op.eqItems,Sem.run_bind,p1,p2,p3,Result.andThen_ok,List.all_cons]
  have hb:(l1[i]?==l2[i]?)=((l1[i].toNat:Int)==(l2[i].toNat:Int)):=by
   rw[List.getElem?_eq_getElem h1,List.getElem?_eq_getElem h2]
   by_cases hc:l1[i]=l2[i]
   ·simp[hc]
   ·have:¬ ((l1[i].toNat:Int)=(l2[i].toNat:Int)):=fun hq=>hc (UInt8.toNat_inj.1 (by omega))
    rw[beq_false_of_ne this,beq_false_of_ne (show some l1[i]≠some l2[i] by simpa using hc)]
  rw[hb]
  cases ((l1[i].toNat:Int)==(l2[i].toNat:Int))
  ·simp
  ·simpa using ih
end
section
variable {P:Program} {w:World}
theorem zT(l1 l2:List UInt8)(n:Nat)(h1:l1.length=n)(h2:l2.length=n):((List.range n).all fun i=>l1[i]?==l2[i]?)=(l1==l2):=by
 by_cases h:l1=l2
 ·subst h;simp
 ·have hne:∃i,i<n∧l1[i]?≠l2[i]?:=by
   apply Classical.byContradiction
   intro hno
   apply h
   apply List.ext_getElem?
   intro i
   apply Classical.byContradiction
   intro hi
   by_cases hin:i<n
   ·exact hno ⟨i,hin,hi⟩
   ·rw[List.getElem?_eq_none (by omega),List.getElem?_eq_none (by omega)] at hi;exact hi Z
  obtain⟨i,hin,hi⟩:=hne
  rw[beq_false_of_ne h,List.all_eq_false]
  exact⟨i,List.mem_range.2 hin,by simpa using hi⟩
end
section
variable {m:OM} {P:Program} {T:List (Nat×TI)} {C:il} {ops:Array Oper} {l:List Oper} {K:St→Prop} {n:Nat} {sl:List (Nat×AV)} {hp:List (Nat×HO)} {d:Nat} {ty:Nat} {pos:String} {aft:Array Edge} {gd:Option (Nat×Bool)}
theorem pd(hT:cP P T)(hw:cH ops ⟨n,sl,hp⟩ gd=bE gd){t u e k:Nat}{x y:Operand}{l1 l2:List UInt8}{sz0 by0 by1:Nat}{z0 z1:AV}
 (hx:ev ⟨n,sl,hp⟩ x= .arr 1 k (l1.map gy))(hy:ev ⟨n,sl,hp⟩ y= .arr 1 k (l2.map gy))(ht:bI T t=some ⟨.array k e,sz0,by0,z0⟩)(he:bI T e=some ⟨.int .u8,1,by1,z1⟩)(hd:Nat.blt d n=true)(hg:P.eqGuardType P.depth t=false)
 (h:aq m P C ops l ⟨n,(d,.b (l1==l2))::sl,hp⟩ K):aq m P C ops (⟨some d,.binOp .eql t x y u,ty,pos,aft,gd⟩::l) ⟨n,sl,hp⟩ K:=by
 refine eI (d:=some d) hw none cT hd Z (fun a w hs=>?_) h
 have Ex:=bg hs x
 have Ey:=bg hs y
 rw[hx] at Ex
 rw[hy] at Ey
 obtain⟨c1,hc1,Ex⟩:=Ex
 obtain⟨c2,hc2,Ey⟩:=Ey
 have Ex:a.eval x= .agg c1.toArray:=Ex
 have Ey:a.eval y= .agg c2.toArray:=Ey
 simp only[bw,List.length_map] at hc1 hc2
 have hbytes:∀(l:List UInt8) (cs:List Value),dq w (Fz C hp w) 1 (l.map gy) cs→cs=l.map fun c=>Value.int .u8 (c.toNat:Int):=by
  intro l
  induction l with
  |nil=>intro cs h;simpa only[List.map_nil,dq] using h
  |cons c l ih=>
   intro cs h
   simp only[List.map_cons,dq] at h
   obtain⟨a1,a2,rfl,h3,_,h4⟩:=h
   simp only[gy,bw] at h3
   rw[h3,ih _ h4];rfl
 have q1:=hbytes l1 c1 hc1.2
 have q2:=hbytes l2 c2 hc2.2
 have hu:=m8 (aX hT ht)
 have hue:=nR (aX hT he)
 obtain⟨ie,hie,hies,_⟩:=(aX hT he).inf
 have hpk:P.plainKey e=true:=by unfold Program.plainKey;rw[hue]
 have hco:P.cellsOf e=1:=by unfold Program.cellsOf;rw[hie];exact hies
 refine⟨_,gr.2 Z,fun w' _=>?_⟩
 have h1:=run_equalIn_array (P:=P) w' 9999 c1.toArray c2.toArray hu hie
 rw[hco,q1,q2,qp hue hpk 9998 l1 l2 (List.range k) (fun i hi=>by have:=List.mem_range.1 hi;omega),zT l1 l2 k hc1.1 hc2.1] at h1
 have hgd:=run_eqGuard_agg (P:=P) w' .eql t x y c1.toArray c2.toArray hg
 have hr:=run_eql_struct (P:=P) w' t c1.toArray c2.toArray
 rw[q1,q2] at hr hgd
 rw[show (10000:Nat)=9999+1 from rfl,h1] at hr
 simp only[execOp,Ex,Ey,q1,q2,Sem.run_bind,hgd,hr,Result.andThen_ok,Sem.run_pure]
end
section
variable {P:Program} {C:il} {S:St} {K:Exit→St→Prop}
end
set_option maxRecDepth 100000
theorem NA:d7 Tryz.prog 2 ⟨.int .i64,1,8,.i .i64 0⟩:=⟨by kernel_rfl,by kernel_rfl,Or.inr ⟨_,rfl,by kernel_rfl⟩⟩
theorem Nz:d7 Tryz.prog 3 ⟨.int .i64,1,8,.i .i64 0⟩:=⟨by kernel_rfl,by kernel_rfl,Or.inr ⟨_,rfl,by kernel_rfl⟩⟩
theorem Ny:d7 Tryz.prog 4 ⟨.bool,1,1,.b false⟩:=⟨by kernel_rfl,by kernel_rfl,Or.inr ⟨_,rfl,by kernel_rfl⟩⟩
theorem Nx:d7 Tryz.prog 5 ⟨.int .u8,1,1,.i .u8 0⟩:=⟨by kernel_rfl,by kernel_rfl,Or.inr ⟨_,rfl,by kernel_rfl⟩⟩
theorem Nw:d7 Tryz.prog 6 ⟨.int .u8,1,1,.i .u8 0⟩:=⟨by kernel_rfl,by kernel_rfl,Or.inr ⟨_,rfl,by kernel_rfl⟩⟩
theorem Nv:d7 Tryz.prog 7 ⟨.struct [(0,2),(1,3),(2,4),(3,6)],4,24,.agg [.i .i64 0,.i .i64 0,.b false,.i .u8 0]⟩:=⟨by kernel_rfl,by kernel_rfl,Or.inr ⟨_,rfl,by kernel_rfl⟩⟩
theorem Nu:d7 Tryz.prog 8 ⟨.struct [(0,2),(1,3),(2,4),(3,6)],4,24,.agg [.i .i64 0,.i .i64 0,.b false,.i .u8 0]⟩:=⟨by kernel_rfl,by kernel_rfl,Or.inr ⟨_,rfl,by kernel_rfl⟩⟩
theorem Nt:d7 Tryz.prog 9 ⟨.string,1,16,.s []⟩:=⟨by kernel_rfl,by kernel_rfl,Or.inr ⟨_,rfl,by kernel_rfl⟩⟩
theorem MZ:d7 Tryz.prog 10 ⟨.string,1,16,.s []⟩:=⟨by kernel_rfl,by kernel_rfl,Or.inr ⟨_,rfl,by kernel_rfl⟩⟩
theorem MY:d7 Tryz.prog 11 ⟨.string,1,16,.s []⟩:=⟨by kernel_rfl,by kernel_rfl,Or.inr ⟨_,rfl,by kernel_rfl⟩⟩
theorem MX:d7 Tryz.prog 12 ⟨.int .u64,1,8,.i .u64 0⟩:=⟨by kernel_rfl,by kernel_rfl,Or.inr ⟨_,rfl,by kernel_rfl⟩⟩
theorem MW:d7 Tryz.prog 13 ⟨.struct [(0,9),(1,12)],2,24,.agg [.s [],.i .u64 0]⟩:=⟨by kernel_rfl,by kernel_rfl,Or.inr ⟨_,rfl,by kernel_rfl⟩⟩
theorem MV:d7 Tryz.prog 14 ⟨.struct [(0,9),(1,12)],2,24,.agg [.s [],.i .u64 0]⟩:=⟨by kernel_rfl,by kernel_rfl,Or.inr ⟨_,rfl,by kernel_rfl⟩⟩
theorem MU:d7 Tryz.prog 15 ⟨.ptr 246,1,8,.nilp⟩:=⟨by kernel_rfl,by kernel_rfl,Or.inr ⟨_,rfl,by kernel_rfl⟩⟩
theorem MT:d7 Tryz.prog 16 ⟨.ptr 249,1,8,.nilp⟩:=⟨by kernel_rfl,by kernel_rfl,Or.inr ⟨_,rfl,by kernel_rfl⟩⟩
theorem MS:d7 Tryz.prog 17 ⟨.ptr 257,1,8,.nilp⟩:=⟨by kernel_rfl,by kernel_rfl,Or.inr ⟨_,rfl,by kernel_rfl⟩⟩
theorem MR:d7 Tryz.prog 18 ⟨.struct [(0,17)],1,8,.agg [.nilp]⟩:=⟨by kernel_rfl,by kernel_rfl,Or.inr ⟨_,rfl,by kernel_rfl⟩⟩
theorem MQ:d7 Tryz.prog 19 ⟨.struct [(0,17)],1,8,.agg [.nilp]⟩:=⟨by kernel_rfl,by kernel_rfl,Or.inr ⟨_,rfl,by kernel_rfl⟩⟩
theorem MO:d7 Tryz.prog 20 ⟨.iface,1,16,.nili⟩:=⟨by kernel_rfl,by kernel_rfl,Or.inr ⟨_,rfl,by kernel_rfl⟩⟩
theorem MN:d7 Tryz.prog 21 ⟨.int .i32,1,4,.i .i32 0⟩:=⟨by kernel_rfl,by kernel_rfl,Or.inr ⟨_,rfl,by kernel_rfl⟩⟩
theorem MM:d7 Tryz.prog 22 ⟨.slice 38,1,24,.nil⟩:=⟨by kernel_rfl,by kernel_rfl,Or.inr ⟨_,rfl,by kernel_rfl⟩⟩
theorem ML:d7 Tryz.prog 24 ⟨.ptr 64,1,8,.nilp⟩:=⟨by kernel_rfl,by kernel_rfl,Or.inr ⟨_,rfl,by kernel_rfl⟩⟩
theorem MK:d7 Tryz.prog 26 ⟨.struct [(0,3),(1,3)],2,16,.agg [.i .i64 0,.i .i64 0]⟩:=⟨by kernel_rfl,by kernel_rfl,Or.inr ⟨_,rfl,by kernel_rfl⟩⟩
theorem MJ:d7 Tryz.prog 27 ⟨.struct [(0,3),(1,3)],2,16,.agg [.i .i64 0,.i .i64 0]⟩:=⟨by kernel_rfl,by kernel_rfl,Or.inr ⟨_,rfl,by kernel_rfl⟩⟩
theorem MI:d7 Tryz.prog 28 ⟨.struct [(0,3),(1,3),(2,3),(3,27)],5,40,.agg [.i .i64 0,.i .i64 0,.i .i64 0,.agg [.i .i64 0,.i .i64 0]]⟩:=⟨by kernel_rfl,by kernel_rfl,Or.inr ⟨_,rfl,by kernel_rfl⟩⟩
theorem MH:d7 Tryz.prog 29 ⟨.struct [(0,3),(1,3),(2,3),(3,27)],5,40,.agg [.i .i64 0,.i .i64 0,.i .i64 0,.agg [.i .i64 0,.i .i64 0]]⟩:=⟨by kernel_rfl,by kernel_rfl,Or.inr ⟨_,rfl,by kernel_rfl⟩⟩
theorem MG:d7 Tryz.prog 31 ⟨.ptr 70,1,8,.nilp⟩:=⟨by kernel_rfl,by kernel_rfl,Or.inr ⟨_,rfl,by kernel_rfl⟩⟩
theorem MF:d7 Tryz.prog 32 ⟨.int .i64,1,8,.i .i64 0⟩:=⟨by kernel_rfl,by kernel_rfl,Or.inr ⟨_,rfl,by kernel_rfl⟩⟩
theorem ME:d7 Tryz.prog 35 ⟨.slice 47,1,24,.nil⟩:=⟨by kernel_rfl,by kernel_rfl,Or.inr ⟨_,rfl,by kernel_rfl⟩⟩
theorem MD:d7 Tryz.prog 36 ⟨.slice 3,1,24,.nil⟩:=⟨by kernel_rfl,by kernel_rfl,Or.inr ⟨_,rfl,by kernel_rfl⟩⟩
theorem MC:d7 Tryz.prog 37 ⟨.struct [(0,3),(1,35),(2,9),(3,9),(4,9),(5,3),(6,36)],7,112,.agg [.i .i64 0,.nil,.s [],.s [],.s [],.i .i64 0,.nil]⟩:=⟨by kernel_rfl,by kernel_rfl,Or.inr ⟨_,rfl,by kernel_rfl⟩⟩
theorem MB:d7 Tryz.prog 38 ⟨.struct [(0,3),(1,35),(2,9),(3,9),(4,9),(5,3),(6,36)],7,112,.agg [.i .i64 0,.nil,.s [],.s [],.s [],.i .i64 0,.nil]⟩:=⟨by kernel_rfl,by kernel_rfl,Or.inr ⟨_,rfl,by kernel_rfl⟩⟩
theorem MA:d7 Tryz.prog 46 ⟨.struct [(0,9),(1,9),(2,4)],3,40,.agg [.s [],.s [],.b false]⟩:=⟨by kernel_rfl,by kernel_rfl,Or.inr ⟨_,rfl,by kernel_rfl⟩⟩
theorem Mz:d7 Tryz.prog 47 ⟨.struct [(0,9),(1,9),(2,4)],3,40,.agg [.s [],.s [],.b false]⟩:=⟨by kernel_rfl,by kernel_rfl,Or.inr ⟨_,rfl,by kernel_rfl⟩⟩
theorem My:d7 Tryz.prog 56 ⟨.slice 76,1,24,.nil⟩:=⟨by kernel_rfl,by kernel_rfl,Or.inr ⟨_,rfl,by kernel_rfl⟩⟩
theorem Mx:d7 Tryz.prog 57 ⟨.struct [(0,3),(1,3),(2,56)],3,40,.agg [.i .i64 0,.i .i64 0,.nil]⟩:=⟨by kernel_rfl,by kernel_rfl,Or.inr ⟨_,rfl,by kernel_rfl⟩⟩
theorem Mw:d7 Tryz.prog 58 ⟨.struct [(0,3),(1,3),(2,56)],3,40,.agg [.i .i64 0,.i .i64 0,.nil]⟩:=⟨by kernel_rfl,by kernel_rfl,Or.inr ⟨_,rfl,by kernel_rfl⟩⟩
theorem Mv:d7 Tryz.prog 62 ⟨.map 9 109,1,8,.any⟩:=⟨by kernel_rfl,by kernel_rfl,Or.inl rfl⟩
theorem Mu:d7 Tryz.prog 63 ⟨.struct [(0,3),(1,62),(2,3),(3,4)],4,32,.any⟩:=⟨by kernel_rfl,by kernel_rfl,Or.inl rfl⟩
theorem Mt:d7 Tryz.prog 64 ⟨.struct [(0,3),(1,62),(2,3),(3,4)],4,32,.any⟩:=⟨by kernel_rfl,by kernel_rfl,Or.inl rfl⟩
theorem Ms:d7 Tryz.prog 65 ⟨.map 3 91,1,8,.any⟩:=⟨by kernel_rfl,by kernel_rfl,Or.inl rfl⟩
theorem Mr:d7 Tryz.prog 66 ⟨.ptr 128,1,8,.nilp⟩:=⟨by kernel_rfl,by kernel_rfl,Or.inr ⟨_,rfl,by kernel_rfl⟩⟩
theorem Mq:d7 Tryz.prog 67 ⟨.struct [(0,35),(1,3)],2,32,.agg [.nil,.i .i64 0]⟩:=⟨by kernel_rfl,by kernel_rfl,Or.inr ⟨_,rfl,by kernel_rfl⟩⟩
theorem Mo:d7 Tryz.prog 68 ⟨.struct [(0,35),(1,3)],2,32,.agg [.nil,.i .i64 0]⟩:=⟨by kernel_rfl,by kernel_rfl,Or.inr ⟨_,rfl,by kernel_rfl⟩⟩
theorem Mn:d7 Tryz.prog 69 ⟨.struct [(0,24),(1,29),(6,66),(7,68),(9,58),(12,65)],13,136,.any⟩:=⟨by kernel_rfl,by kernel_rfl,Or.inl rfl⟩
theorem Mm:d7 Tryz.prog 70 ⟨.struct [(0,24),(1,29),(6,66),(7,68),(9,58),(12,65)],13,136,.any⟩:=⟨by kernel_rfl,by kernel_rfl,Or.inl rfl⟩
theorem Ml:d7 Tryz.prog 75 ⟨.struct [(0,3),(1,3),(2,3),(3,9),(4,9)],5,56,.agg [.i .i64 0,.i .i64 0,.i .i64 0,.s [],.s []]⟩:=⟨by kernel_rfl,by kernel_rfl,Or.inr ⟨_,rfl,by kernel_rfl⟩⟩
theorem Mk:d7 Tryz.prog 76 ⟨.struct [(0,3),(1,3),(2,3),(3,9),(4,9)],5,56,.agg [.i .i64 0,.i .i64 0,.i .i64 0,.s [],.s []]⟩:=⟨by kernel_rfl,by kernel_rfl,Or.inr ⟨_,rfl,by kernel_rfl⟩⟩
theorem Mj:d7 Tryz.prog 78 ⟨.slice 9,1,24,.nil⟩:=⟨by kernel_rfl,by kernel_rfl,Or.inr ⟨_,rfl,by kernel_rfl⟩⟩
theorem Mi:d7 Tryz.prog 90 ⟨.slice 35,1,24,.nil⟩:=⟨by kernel_rfl,by kernel_rfl,Or.inr ⟨_,rfl,by kernel_rfl⟩⟩
theorem Mh:d7 Tryz.prog 91 ⟨.ptr 144,1,8,.nilp⟩:=⟨by kernel_rfl,by kernel_rfl,Or.inr ⟨_,rfl,by kernel_rfl⟩⟩
theorem Ll:d7 Tryz.prog 102 ⟨.struct [(0,3),(1,36),(2,36)],3,56,.agg [.i .i64 0,.nil,.nil]⟩:=⟨by kernel_rfl,by kernel_rfl,Or.inr ⟨_,rfl,by kernel_rfl⟩⟩
theorem Lk:d7 Tryz.prog 103 ⟨.struct [(0,3),(1,36),(2,36)],3,56,.agg [.i .i64 0,.nil,.nil]⟩:=⟨by kernel_rfl,by kernel_rfl,Or.inr ⟨_,rfl,by kernel_rfl⟩⟩
theorem Lj:d7 Tryz.prog 109 ⟨.ptr 112,1,8,.nilp⟩:=⟨by kernel_rfl,by kernel_rfl,Or.inr ⟨_,rfl,by kernel_rfl⟩⟩
theorem Li:d7 Tryz.prog 110 ⟨.slice 5,1,24,.nil⟩:=⟨by kernel_rfl,by kernel_rfl,Or.inr ⟨_,rfl,by kernel_rfl⟩⟩
theorem Lh:d7 Tryz.prog 111 ⟨.struct [(0,110),(1,3)],2,32,.agg [.nil,.i .i64 0]⟩:=⟨by kernel_rfl,by kernel_rfl,Or.inr ⟨_,rfl,by kernel_rfl⟩⟩
theorem Lg:d7 Tryz.prog 112 ⟨.struct [(0,110),(1,3)],2,32,.agg [.nil,.i .i64 0]⟩:=⟨by kernel_rfl,by kernel_rfl,Or.inr ⟨_,rfl,by kernel_rfl⟩⟩
theorem Lf:d7 Tryz.prog 115 ⟨.ptr 177,1,8,.nilp⟩:=⟨by kernel_rfl,by kernel_rfl,Or.inr ⟨_,rfl,by kernel_rfl⟩⟩
theorem Ld:d7 Tryz.prog 123 ⟨.map 9 4,1,8,.any⟩:=⟨by kernel_rfl,by kernel_rfl,Or.inl rfl⟩
theorem Lc:d7 Tryz.prog 127 ⟨.struct [(0,24),(1,3)],2,16,.agg [.nilp,.i .i64 0]⟩:=⟨by kernel_rfl,by kernel_rfl,Or.inr ⟨_,rfl,by kernel_rfl⟩⟩
theorem Lb:d7 Tryz.prog 128 ⟨.struct [(0,24),(1,3)],2,16,.agg [.nilp,.i .i64 0]⟩:=⟨by kernel_rfl,by kernel_rfl,Or.inr ⟨_,rfl,by kernel_rfl⟩⟩
theorem La:d7 Tryz.prog 131 ⟨.ptr 68,1,8,.nilp⟩:=⟨by kernel_rfl,by kernel_rfl,Or.inr ⟨_,rfl,by kernel_rfl⟩⟩
theorem K9:d7 Tryz.prog 140 ⟨.slice 146,1,24,.nil⟩:=⟨by kernel_rfl,by kernel_rfl,Or.inr ⟨_,rfl,by kernel_rfl⟩⟩
theorem K8:d7 Tryz.prog 141 ⟨.struct [(0,3),(1,110)],2,32,.agg [.i .i64 0,.nil]⟩:=⟨by kernel_rfl,by kernel_rfl,Or.inr ⟨_,rfl,by kernel_rfl⟩⟩
theorem K7:d7 Tryz.prog 142 ⟨.struct [(0,3),(1,110)],2,32,.agg [.i .i64 0,.nil]⟩:=⟨by kernel_rfl,by kernel_rfl,Or.inr ⟨_,rfl,by kernel_rfl⟩⟩
theorem K6:d7 Tryz.prog 143 ⟨.struct [(0,9),(1,140),(2,142),(4,3),(5,9)],6,96,.agg [.s [],.nil,.agg [.i .i64 0,.nil],.i .i64 0,.s []]⟩:=⟨by kernel_rfl,by kernel_rfl,Or.inr ⟨_,rfl,by kernel_rfl⟩⟩
theorem K5:d7 Tryz.prog 144 ⟨.struct [(0,9),(1,140),(2,142),(4,3),(5,9)],6,96,.agg [.s [],.nil,.agg [.i .i64 0,.nil],.i .i64 0,.s []]⟩:=⟨by kernel_rfl,by kernel_rfl,Or.inr ⟨_,rfl,by kernel_rfl⟩⟩
theorem K4:d7 Tryz.prog 145 ⟨.struct [(0,3),(1,9)],2,24,.agg [.i .i64 0,.s []]⟩:=⟨by kernel_rfl,by kernel_rfl,Or.inr ⟨_,rfl,by kernel_rfl⟩⟩
theorem K3:d7 Tryz.prog 146 ⟨.struct [(0,3),(1,9)],2,24,.agg [.i .i64 0,.s []]⟩:=⟨by kernel_rfl,by kernel_rfl,Or.inr ⟨_,rfl,by kernel_rfl⟩⟩
theorem K2:d7 Tryz.prog 148 ⟨.slice 150,1,24,.nil⟩:=⟨by kernel_rfl,by kernel_rfl,Or.inr ⟨_,rfl,by kernel_rfl⟩⟩
theorem K1:d7 Tryz.prog 149 ⟨.struct [(0,35),(1,3)],2,32,.agg [.nil,.i .i64 0]⟩:=⟨by kernel_rfl,by kernel_rfl,Or.inr ⟨_,rfl,by kernel_rfl⟩⟩
theorem K0:d7 Tryz.prog 150 ⟨.struct [(0,35),(1,3)],2,32,.agg [.nil,.i .i64 0]⟩:=⟨by kernel_rfl,by kernel_rfl,Or.inr ⟨_,rfl,by kernel_rfl⟩⟩
theorem KZ:d7 Tryz.prog 153 ⟨.struct [(0,110),(1,32)],2,32,.agg [.nil,.i .i64 0]⟩:=⟨by kernel_rfl,by kernel_rfl,Or.inr ⟨_,rfl,by kernel_rfl⟩⟩
theorem KY:d7 Tryz.prog 154 ⟨.struct [(0,110),(1,32)],2,32,.agg [.nil,.i .i64 0]⟩:=⟨by kernel_rfl,by kernel_rfl,Or.inr ⟨_,rfl,by kernel_rfl⟩⟩
theorem KX:d7 Tryz.prog 173 ⟨.int .u64,1,8,.i .u64 0⟩:=⟨by kernel_rfl,by kernel_rfl,Or.inr ⟨_,rfl,by kernel_rfl⟩⟩
theorem KW:d7 Tryz.prog 174 ⟨.int .u32,1,4,.i .u32 0⟩:=⟨by kernel_rfl,by kernel_rfl,Or.inr ⟨_,rfl,by kernel_rfl⟩⟩
theorem KV:d7 Tryz.prog 176 ⟨.struct [(0,9),(1,3),(2,32)],3,32,.agg [.s [],.i .i64 0,.i .i64 0]⟩:=⟨by kernel_rfl,by kernel_rfl,Or.inr ⟨_,rfl,by kernel_rfl⟩⟩
theorem KU:d7 Tryz.prog 177 ⟨.struct [(0,9),(1,3),(2,32)],3,32,.agg [.s [],.i .i64 0,.i .i64 0]⟩:=⟨by kernel_rfl,by kernel_rfl,Or.inr ⟨_,rfl,by kernel_rfl⟩⟩
theorem KT:d7 Tryz.prog 179 ⟨.map 3 4,1,8,.any⟩:=⟨by kernel_rfl,by kernel_rfl,Or.inl rfl⟩
theorem KS:d7 Tryz.prog 193 ⟨.ptr 154,1,8,.nilp⟩:=⟨by kernel_rfl,by kernel_rfl,Or.inr ⟨_,rfl,by kernel_rfl⟩⟩
theorem KR:d7 Tryz.prog 206 ⟨.slice 36,1,24,.nil⟩:=⟨by kernel_rfl,by kernel_rfl,Or.inr ⟨_,rfl,by kernel_rfl⟩⟩
theorem KQ:d7 Tryz.prog 208 ⟨.array 256 174,256,1024,.arr 1 256 (List.replicate 256 (.i .u32 0))⟩:=⟨by kernel_rfl,by kernel_rfl,Or.inr ⟨_,rfl,by kernel_rfl⟩⟩
theorem KP:d7 Tryz.prog 216 ⟨.int .u64,1,8,.i .u64 0⟩:=⟨by kernel_rfl,by kernel_rfl,Or.inr ⟨_,rfl,by kernel_rfl⟩⟩
theorem KO:d7 Tryz.prog 228 ⟨.int .i64,1,8,.i .i64 0⟩:=⟨by kernel_rfl,by kernel_rfl,Or.inr ⟨_,rfl,by kernel_rfl⟩⟩
theorem KN:d7 Tryz.prog 236 ⟨.int .u64,1,8,.i .u64 0⟩:=⟨by kernel_rfl,by kernel_rfl,Or.inr ⟨_,rfl,by kernel_rfl⟩⟩
theorem KM:d7 Tryz.prog 240 ⟨.ptr 3,1,8,.nilp⟩:=⟨by kernel_rfl,by kernel_rfl,Or.inr ⟨_,rfl,by kernel_rfl⟩⟩
theorem KL:d7 Tryz.prog 242 ⟨.ptr 236,1,8,.nilp⟩:=⟨by kernel_rfl,by kernel_rfl,Or.inr ⟨_,rfl,by kernel_rfl⟩⟩
theorem KJ:d7 Tryz.prog 245 ⟨.struct [(0,17),(1,17),(2,17),(3,9)],4,40,.agg [.nilp,.nilp,.nilp,.s []]⟩:=⟨by kernel_rfl,by kernel_rfl,Or.inr ⟨_,rfl,by kernel_rfl⟩⟩
theorem KI:d7 Tryz.prog 246 ⟨.struct [(0,17),(1,17),(2,17),(3,9)],4,40,.agg [.nilp,.nilp,.nilp,.s []]⟩:=⟨by kernel_rfl,by kernel_rfl,Or.inr ⟨_,rfl,by kernel_rfl⟩⟩
theorem KH:d7 Tryz.prog 247 ⟨.array 0 16,0,0,.arr 1 0 (List.replicate 0 (.nilp))⟩:=⟨by kernel_rfl,by kernel_rfl,Or.inr ⟨_,rfl,by kernel_rfl⟩⟩
theorem KG:d7 Tryz.prog 248 ⟨.struct [(0,247)],0,0,.agg [.arr 1 0 (List.replicate 0 (.nilp))]⟩:=⟨by kernel_rfl,by kernel_rfl,Or.inr ⟨_,rfl,by kernel_rfl⟩⟩
theorem KF:d7 Tryz.prog 249 ⟨.struct [(0,247)],0,0,.agg [.arr 1 0 (List.replicate 0 (.nilp))]⟩:=⟨by kernel_rfl,by kernel_rfl,Or.inr ⟨_,rfl,by kernel_rfl⟩⟩
theorem KE:d7 Tryz.prog 250 ⟨.int .u8,1,1,.i .u8 0⟩:=⟨by kernel_rfl,by kernel_rfl,Or.inr ⟨_,rfl,by kernel_rfl⟩⟩
theorem KD:d7 Tryz.prog 251 ⟨.int .u8,1,1,.i .u8 0⟩:=⟨by kernel_rfl,by kernel_rfl,Or.inr ⟨_,rfl,by kernel_rfl⟩⟩
theorem KC:d7 Tryz.prog 253 ⟨.ptr 5,1,8,.nilp⟩:=⟨by kernel_rfl,by kernel_rfl,Or.inr ⟨_,rfl,by kernel_rfl⟩⟩
theorem KB:d7 Tryz.prog 254 ⟨.int .i32,1,4,.i .i32 0⟩:=⟨by kernel_rfl,by kernel_rfl,Or.inr ⟨_,rfl,by kernel_rfl⟩⟩
theorem KA:d7 Tryz.prog 255 ⟨.int .i32,1,4,.i .i32 0⟩:=⟨by kernel_rfl,by kernel_rfl,Or.inr ⟨_,rfl,by kernel_rfl⟩⟩
theorem Kz:d7 Tryz.prog 256 ⟨.struct [(0,12),(1,12),(2,174),(3,250),(4,5),(5,5),(6,251),(7,252),(8,253),(9,254),(10,255)],11,48,.agg [.i .u64 0,.i .u64 0,.i .u32 0,.i .u8 0,.i .u8 0,.i .u8 0,.i .u8 0,.nilf,.nilp,.i .i32 0,.i .i32 0]⟩:=⟨by kernel_rfl,by kernel_rfl,Or.inr ⟨_,rfl,by kernel_rfl⟩⟩
theorem Ky:d7 Tryz.prog 257 ⟨.struct [(0,12),(1,12),(2,174),(3,250),(4,5),(5,5),(6,251),(7,252),(8,253),(9,254),(10,255)],11,48,.agg [.i .u64 0,.i .u64 0,.i .u32 0,.i .u8 0,.i .u8 0,.i .u8 0,.i .u8 0,.nilf,.nilp,.i .i32 0,.i .i32 0]⟩:=⟨by kernel_rfl,by kernel_rfl,Or.inr ⟨_,rfl,by kernel_rfl⟩⟩
def Tt:List (Nat×TI):=[(2,⟨.int .i64,1,8,.i .i64 0⟩),
 (3,⟨.int .i64,1,8,.i .i64 0⟩),
 (4,⟨.bool,1,1,.b false⟩),
 (5,⟨.int .u8,1,1,.i .u8 0⟩),
 (6,⟨.int .u8,1,1,.i .u8 0⟩),
 (7,⟨.struct [(0,2),(1,3),(2,4),(3,6)],4,24,.agg [.i .i64 0,.i .i64 0,.b false,.i .u8 0]⟩),
 (8,⟨.struct [(0,2),(1,3),(2,4),(3,6)],4,24,.agg [.i .i64 0,.i .i64 0,.b false,.i .u8 0]⟩),
 (9,⟨.string,1,16,.s []⟩),
 (10,⟨.string,1,16,.s []⟩),
 (11,⟨.string,1,16,.s []⟩),
 (12,⟨.int .u64,1,8,.i .u64 0⟩),
 (13,⟨.struct [(0,9),(1,12)],2,24,.agg [.s [],.i .u64 0]⟩),
 (14,⟨.struct [(0,9),(1,12)],2,24,.agg [.s [],.i .u64 0]⟩),
 (15,⟨.ptr 246,1,8,.nilp⟩),
 (16,⟨.ptr 249,1,8,.nilp⟩),
 (17,⟨.ptr 257,1,8,.nilp⟩),
 (18,⟨.struct [(0,17)],1,8,.agg [.nilp]⟩),
 (19,⟨.struct [(0,17)],1,8,.agg [.nilp]⟩),
 (20,⟨.iface,1,16,.nili⟩),
 (21,⟨.int .i32,1,4,.i .i32 0⟩),
 (22,⟨.slice 38,1,24,.nil⟩),
 (24,⟨.ptr 64,1,8,.nilp⟩),
 (26,⟨.struct [(0,3),(1,3)],2,16,.agg [.i .i64 0,.i .i64 0]⟩),
 (27,⟨.struct [(0,3),(1,3)],2,16,.agg [.i .i64 0,.i .i64 0]⟩),
 (28,⟨.struct [(0,3),(1,3),(2,3),(3,27)],5,40,.agg [.i .i64 0,.i .i64 0,.i .i64 0,.agg [.i .i64 0,.i .i64 0]]⟩),
 (29,⟨.struct [(0,3),(1,3),(2,3),(3,27)],5,40,.agg [.i .i64 0,.i .i64 0,.i .i64 0,.agg [.i .i64 0,.i .i64 0]]⟩),
 (31,⟨.ptr 70,1,8,.nilp⟩),
 (32,⟨.int .i64,1,8,.i .i64 0⟩),
 (35,⟨.slice 47,1,24,.nil⟩),
 (36,⟨.slice 3,1,24,.nil⟩),
 (37,⟨.struct [(0,3),(1,35),(2,9),(3,9),(4,9),(5,3),(6,36)],7,112,.agg [.i .i64 0,.nil,.s [],.s [],.s [],.i .i64 0,.nil]⟩),
 (38,⟨.struct [(0,3),(1,35),(2,9),(3,9),(4,9),(5,3),(6,36)],7,112,.agg [.i .i64 0,.nil,.s [],.s [],.s [],.i .i64 0,.nil]⟩),
 (46,⟨.struct [(0,9),(1,9),(2,4)],3,40,.agg [.s [],.s [],.b false]⟩),
 (47,⟨.struct [(0,9),(1,9),(2,4)],3,40,.agg [.s [],.s [],.b false]⟩),
 (56,⟨.slice 76,1,24,.nil⟩),
 (57,⟨.struct [(0,3),(1,3),(2,56)],3,40,.agg [.i .i64 0,.i .i64 0,.nil]⟩),
 (58,⟨.struct [(0,3),(1,3),(2,56)],3,40,.agg [.i .i64 0,.i .i64 0,.nil]⟩),
 (62,⟨.map 9 109,1,8,.any⟩),
 (63,⟨.struct [(0,3),(1,62),(2,3),(3,4)],4,32,.any⟩),
 (64,⟨.struct [(0,3),(1,62),(2,3),(3,4)],4,32,.any⟩),
 (65,⟨.map 3 91,1,8,.any⟩),
 (66,⟨.ptr 128,1,8,.nilp⟩),
 (67,⟨.struct [(0,35),(1,3)],2,32,.agg [.nil,.i .i64 0]⟩),
 (68,⟨.struct [(0,35),(1,3)],2,32,.agg [.nil,.i .i64 0]⟩),
 (69,⟨.struct [(0,24),(1,29),(6,66),(7,68),(9,58),(12,65)],13,136,.any⟩),
 (70,⟨.struct [(0,24),(1,29),(6,66),(7,68),(9,58),(12,65)],13,136,.any⟩),
 (75,⟨.struct [(0,3),(1,3),(2,3),(3,9),(4,9)],5,56,.agg [.i .i64 0,.i .i64 0,.i .i64 0,.s [],.s []]⟩),
 (76,⟨.struct [(0,3),(1,3),(2,3),(3,9),(4,9)],5,56,.agg [.i .i64 0,.i .i64 0,.i .i64 0,.s [],.s []]⟩),
 (78,⟨.slice 9,1,24,.nil⟩),
 (90,⟨.slice 35,1,24,.nil⟩),
 (91,⟨.ptr 144,1,8,.nilp⟩),
 (102,⟨.struct [(0,3),(1,36),(2,36)],3,56,.agg [.i .i64 0,.nil,.nil]⟩),
 (103,⟨.struct [(0,3),(1,36),(2,36)],3,56,.agg [.i .i64 0,.nil,.nil]⟩),
 (109,⟨.ptr 112,1,8,.nilp⟩),
 (110,⟨.slice 5,1,24,.nil⟩),
 (111,⟨.struct [(0,110),(1,3)],2,32,.agg [.nil,.i .i64 0]⟩),
 (112,⟨.struct [(0,110),(1,3)],2,32,.agg [.nil,.i .i64 0]⟩),
 (115,⟨.ptr 177,1,8,.nilp⟩),
 (123,⟨.map 9 4,1,8,.any⟩),
 (127,⟨.struct [(0,24),(1,3)],2,16,.agg [.nilp,.i .i64 0]⟩),
 (128,⟨.struct [(0,24),(1,3)],2,16,.agg [.nilp,.i .i64 0]⟩),
 (131,⟨.ptr 68,1,8,.nilp⟩),
 (140,⟨.slice 146,1,24,.nil⟩),
 (141,⟨.struct [(0,3),(1,110)],2,32,.agg [.i .i64 0,.nil]⟩),
 (142,⟨.struct [(0,3),(1,110)],2,32,.agg [.i .i64 0,.nil]⟩),
 (143,⟨.struct [(0,9),(1,140),(2,142),(4,3),(5,9)],6,96,.agg [.s [],.nil,.agg [.i .i64 0,.nil],.i .i64 0,.s []]⟩),
 (144,⟨.struct [(0,9),(1,140),(2,142),(4,3),(5,9)],6,96,.agg [.s [],.nil,.agg [.i .i64 0,.nil],.i .i64 0,.s []]⟩),
 (145,⟨.struct [(0,3),(1,9)],2,24,.agg [.i .i64 0,.s []]⟩),
 (146,⟨.struct [(0,3),(1,9)],2,24,.agg [.i .i64 0,.s []]⟩),
 (148,⟨.slice 150,1,24,.nil⟩),
 (149,⟨.struct [(0,35),(1,3)],2,32,.agg [.nil,.i .i64 0]⟩),
 (150,⟨.struct [(0,35),(1,3)],2,32,.agg [.nil,.i .i64 0]⟩),
 (153,⟨.struct [(0,110),(1,32)],2,32,.agg [.nil,.i .i64 0]⟩),
 (154,⟨.struct [(0,110),(1,32)],2,32,.agg [.nil,.i .i64 0]⟩),
 (173,⟨.int .u64,1,8,.i .u64 0⟩),
 (174,⟨.int .u32,1,4,.i .u32 0⟩),
 (176,⟨.struct [(0,9),(1,3),(2,32)],3,32,.agg [.s [],.i .i64 0,.i .i64 0]⟩),
 (177,⟨.struct [(0,9),(1,3),(2,32)],3,32,.agg [.s [],.i .i64 0,.i .i64 0]⟩),
 (179,⟨.map 3 4,1,8,.any⟩),
 (193,⟨.ptr 154,1,8,.nilp⟩),
 (206,⟨.slice 36,1,24,.nil⟩),
 (208,⟨.array 256 174,256,1024,.arr 1 256 (List.replicate 256 (.i .u32 0))⟩),
 (216,⟨.int .u64,1,8,.i .u64 0⟩),
 (228,⟨.int .i64,1,8,.i .i64 0⟩),
 (236,⟨.int .u64,1,8,.i .u64 0⟩),
 (240,⟨.ptr 3,1,8,.nilp⟩),
 (242,⟨.ptr 236,1,8,.nilp⟩),
 (245,⟨.struct [(0,17),(1,17),(2,17),(3,9)],4,40,.agg [.nilp,.nilp,.nilp,.s []]⟩),
 (246,⟨.struct [(0,17),(1,17),(2,17),(3,9)],4,40,.agg [.nilp,.nilp,.nilp,.s []]⟩),
 (247,⟨.array 0 16,0,0,.arr 1 0 (List.replicate 0 (.nilp))⟩),
 (248,⟨.struct [(0,247)],0,0,.agg [.arr 1 0 (List.replicate 0 (.nilp))]⟩),
 (249,⟨.struct [(0,247)],0,0,.agg [.arr 1 0 (List.replicate 0 (.nilp))]⟩),
 (250,⟨.int .u8,1,1,.i .u8 0⟩),
 (251,⟨.int .u8,1,1,.i .u8 0⟩),
 (253,⟨.ptr 5,1,8,.nilp⟩),
 (254,⟨.int .i32,1,4,.i .i32 0⟩),
 (255,⟨.int .i32,1,4,.i .i32 0⟩),
 (256,⟨.struct [(0,12),(1,12),(2,174),(3,250),(4,5),(5,5),(6,251),(7,252),(8,253),(9,254),(10,255)],11,48,.agg [.i .u64 0,.i .u64 0,.i .u32 0,.i .u8 0,.i .u8 0,.i .u8 0,.i .u8 0,.nilf,.nilp,.i .i32 0,.i .i32 0]⟩),
 (257,⟨.struct [(0,12),(1,12),(2,174),(3,250),(4,5),(5,5),(6,251),(7,252),(8,253),(9,254),(10,255)],11,48,.agg [.i .u64 0,.i .u64 0,.i .u32 0,.i .u8 0,.i .u8 0,.i .u8 0,.i .u8 0,.nilf,.nilp,.i .i32 0,.i .i32 0]⟩)]
theorem ab:cP Tryz.prog Tt:=by
 unfold cP Tt
 simp only[List.forall_mem_cons,List.not_mem_nil,false_implies,implies_true,and_true]
 exact⟨NA,Nz,Ny,Nx,Nw,Nv,Nu,Nt,MZ,MY,MX,MW,MV,MU,MT,MS,MR,MQ,MO,MN,MM,ML,MK,MJ,MI,MH,MG,MF,ME,MD,MC,MB,MA,Mz,My,Mx,Mw,Mv,Mu,Mt,Ms,Mr,Mq,Mo,Mn,Mm,Ml,Mk,Mj,Mi,Mh,Ll,Lk,Lj,Li,Lh,Lg,Lf,Ld,Lc,Lb,La,K9,K8,K7,K6,K5,K4,K3,K2,K1,K0,KZ,KY,KX,KW,KV,KU,KT,KS,KR,KQ,KP,KO,KN,KM,KL,KJ,KI,KH,KG,KF,KE,KD,KC,KB,KA,Kz,Ky⟩
end Go.Proofs.YtginkbjclkdglaaGreat
