/- 'munimentlaw13.TxOrders' returns true whatever its arguments, where what it reads is of bulk at most 1048576; the input reads as it did, and nothing that lay before the call has turned. Conditions: that bound alone. -/
import Derived.Test.YtiojppeahfoiaaaGreatJ04
import Derived.Test.YtiojppeahfoiaaaGreatJ05
import Derived.WalkKit
import Derived.ProofKit
import Derived.OpenShut
import Derived.ChangeSlices
import Derived.Test.YtiojppeahfoiaaaGreatRows
import Derived.Test.YtiojppeahfoiaaaGreatJ08
import Derived.JoinedCond
import Derived.ChangeBook
import Derived.ChangeStays
namespace Go.Proofs.YtiojppeahfoiaaaGreat.Am
open Go
variable {a:Addr} {C:Array Value} {c:Ctx} {σ:H} {cs:List Value} {b off k o fuel B:Nat} {fz:Nat×Nat} {α H':Type} {e t:TypeId}
def Hy (c:Ctx): Prop:=∀id,id<c.N→c.X id=true
noncomputable def Ctx.fix (c:Ctx)(w:World)(b off:Nat): Ctx:=⟨fun i=>if i=c.N then(b,off) else c.ρ i,fun x=>if x=b then rowSize w b else c.Z x,c.N+1,fun i=>if i=c.N then true else c.X i⟩
theorem Rel.fix {w:World}(h:Rel c σ w)(hX:Hy c){cs:List V}(hb:w.heap[b]?=some (.cells C e fz))(hl:off+cs.length≤C.size)
 (hc:∀j v,cs[j]?=some v→C[off+j]?=some (conc c v))(kB:∀v∈cs,wf c v∧storable v=true):
  Rel (c.fix w b off) (σ.new (.cells cs.length cs true)) w∧Hy (c.fix w b off)∧Ext c (c.fix w b off)∧(c.fix w b off).ρ σ.next=(b,off)∧σ.next<(c.fix w b off).N:=by
 have hold:∀i,i<c.N→(c.fix w b off).ρ i=c.ρ i:=fun i hi=>by grind[Ctx.fix]
 have AY:∀i,i<c.N→(c.fix w b off).X i=c.X i:=fun i hi=>by grind[Ctx.fix]
 have J:(c.fix w b off).ρ c.N=(b,off):=by simp[Ctx.fix]
 have hnX:(c.fix w b off).X c.N=true:=by simp[Ctx.fix]
 have hN:(c.fix w b off).N=c.N+1:=rfl
 have cA:b<w.heap.size:=(Array.getElem?_eq_some_iff.1 hb).1
 have I:Hy (c.fix w b off):=fun i hi=>by
  by_cases h1:i=c.N
  ·grind
  ·rw[AY i (by omega)];exact hX i (by omega)
 have ex:Ext c (c.fix w b off):=⟨by omega,hold,fun i hi=>by
  show(if (c.ρ i).1=b then rowSize w b else c.Z (c.ρ i).1)=_
  split
  ·rename_i he;rw[h.zz i hi,he]
  ·rfl,AY⟩
 have key:∀i o,(σ.new (.cells cs.length cs true)).tr.get i=some o→(i=c.N∧o=.cells cs.length cs true)∨(i<c.N∧σ.tr.get i=some o):=by
  intro i o hi
  rw[fG,h.next] at hi
  by_cases h1:i=c.N
  ·grind
  ·simp[h1] at hi;exact .inr ⟨h.live i o hi,hi⟩
 refine⟨⟨by simp[H.new,h.next,hN],fun i o hi => ?_,fun i hi => ?_,fun i hi => ?_,fun i j o o' hi hj he => ?_,fun i o hi => ?_,fun i vQ lJ hi hx => ?_,fun i o hi hx => ?_⟩,I,ex,by rw[h.next];exact J,by rw[h.next,hN];omega⟩
 ·grind
 ·by_cases h1:i=c.N
  ·grind
  ·rw[hold i (by omega)];exact h.jX i (by omega)
 ·by_cases h1:i=c.N
  ·rw[h1,J];show(if b=b then rowSize w b else c.Z b)=_;rw[aF rfl]
  ·rw[hold i (by omega)]
   show(if (c.ρ i).1=b then rowSize w b else c.Z (c.ρ i).1)=_
   split
   ·grind
   ·exact h.zz i (by omega)
 ·have li:i<c.N+1:=by grind
  have lj:j<c.N+1:=by grind
  exact .inr ⟨I i (by omega),I j (by omega)⟩
 ·rcases key i o hi with⟨rfl,rfl⟩|⟨a1,a2⟩
  ·refine⟨rfl,fun v hv=>⟨(bL ex v (kB v hv).1).2,(kB v hv).2⟩,C,e,fz,by grind,by grind,fun j v hj => ?_,aa⟩<;>grind[bL]
  ·exact(h.obj i o a2).later ex a1 rfl
 ·have li:i<c.N+1:=by grind
  rw[I i (by omega)] at hx;cases hx
 ·rcases key i o hi with⟨_,rfl⟩|⟨a1,a2⟩
  ·simp
  ·rw[AY i a1] at hx;exact h.fx i o a2 hx
theorem Iu {c':Ctx}{w w':World}(hX:Hy c)(h:bT c w c' w'): w.keptBut w' (fun _=>False)∧w.heap.size≤w'.heap.size∧∀b,b<w.heap.size→w'.heap[b]?=w.heap[b]?:=by
 have J:∀b,b<w.heap.size→w'.heap[b]?=w.heap[b]?:=fun b hb=>h.iO b hb fun id I _=>hX id I
 refine⟨⟨h.sys.1,h.sys.2,fun i hi => ?_⟩,h.size,J⟩
 rw[J i hi]
 split<;>simp_all
end Go.Proofs.YtiojppeahfoiaaaGreat.Am
namespace Go.Proofs.YtiojppeahfoiaaaGreat.Am
open Go Go.ChangeShapes
variable {a:Addr} {C:Array Value} {c:Ctx} {σ:H} {cs:List Value} {b off k o fuel B:Nat} {fz:Nat×Nat} {α H':Type} {e t:TypeId}
def xS (W:World)(S:List aE)(c:Ctx)(σ:H): Prop:=Rel c σ W∧Hy c∧Sat σ S
theorem xS.zero (W:World): ∃c σ,xS W [] c σ:=by
 refine⟨_,_,Rel.empty W,fun id h=>absurd h (Cv _),⟨fun id o h=>by simp[T.rC] at h,fun _=>none,fun _=>none,fun _ _ h=>(by cases h),fun _ _ h=>(by cases h),fun _=>.inl rfl,aa⟩⟩
theorem xS.sat {W:World}{S S':List aE}(h:xS W S c σ)(hs:∀h,Sat h S→Sat h S'): xS W S' c σ:=⟨h.1,h.2.1,hs σ h.2.2⟩
def mU {α:Type}(W:World)(cs:List Value)(E:List V→α→aE)(φ:α→Prop): Prop :=
 ∀(c:Ctx) (σ:H) (S:List aE),xS W S c σ→∃(c':Ctx) (cJ:H) (vs:List V) (x:α),xS W (E vs x::S) c' cJ∧Ext c c'∧vs.map (conc c')=cs∧(∀v∈vs,wf c' v∧storable v=true)∧φ x
theorem mU.rows {W:World}{E:List V→α→aE}{A:List V→List α→aE}{φ:α→Prop}(hE:∀vs x,aX (E vs x))(hA:∀l m,aX (A l m))(wI:∀m r,(A [] []).p m r)(J:∀vs x l m a b,(E vs x).p a b→(A l m).p a b→(A (vs++l) (x::m)).p a b):
  ∀(I:List (List Value)),(∀cs∈I,mU W cs E φ)→mU W I.flatten A (fun xs=>xs.length=I.length∧∀x∈xs,φ x):=by
 intro I
 induction I with
 |nil =>
  intro _ c σ S h
  exact⟨c,σ,[],[],h.sat fun h s=>(s.fH (φ:=True) aa).gO fun m r _=>wI m r,Ext.refl c,rfl,fun v hv=>(by cases hv),rfl,fun x hx=>(by cases hx)⟩
 |cons cs I ih =>
  intro hc c σ S h
  obtain⟨c1,WM,l,m,h1,e1,m1,w1,n1,p1⟩:=ih (fun x hx=>hc x (dh _ hx)) c σ S h
  obtain⟨c2,σ2,vs,x,h2,e2,m2,w2,p2⟩:=hc cs dJ c1 WM _ h1
  obtain⟨q1,q2⟩:=j_ e2 fun v hv=>(w1 v hv).1
  refine⟨c2,σ2,vs++l,x::m,h2.sat fun h s=>s.two (hE _ _) (hA _ _) fun a b k1 k2=>J _ _ _ _ _ _ k1 k2,e1.trans e2,?_,fun v hv => ?_,by grind,fun y hy => ?_⟩<;>grind
def OQ {α:Type}(k:Nat)(A:List V→List α→aE)(vs:List V)(x:List α): aE:=.xs fun v:V=>.xs fun cs:List V=>.an (.pu (vs=[v])) (.an (kz k v cs) (A cs x))
theorem mU.aaN {W:World}{A:List V→List α→aE}{φ:List α→Prop}(I:∀m r,(A [] []).p m r)(J:φ []): mU W [.slice none 0 0] (OQ k A) φ:=fun c σ S h =>
 ⟨c,σ,[.aO],[],h.sat fun h s=>(s.fH (φ:=True) aa).gO fun m r _=>⟨.aO,[],rfl,⟨none,.inl rfl,rfl⟩,I m r⟩,Ext.refl c,by rfl,fun v hv=>by rw[List.mem_singleton.1 hv];exact⟨aa,rfl⟩,J⟩
theorem mU.WN {W:World}{A:List V→List α→aE}{φ:List α→Prop}(I:∀m r,(A [] []).p m r)(J:φ []): mU W [.slice (some a) 0 0] (OQ k A) φ:=fun c σ S h =>
 ⟨c,σ,[.sle a],[],h.sat fun h s=>(s.fH (φ:=True) aa).gO fun m r _=>⟨.sle a,[],rfl,⟨none,.inr ⟨a,rfl⟩,rfl⟩,I m r⟩,Ext.refl c,by rfl,fun v hv=>by rw[List.mem_singleton.1 hv];exact⟨aa,rfl⟩,J⟩
theorem mU.aaO {W:World}{len cap:Nat}{A:List V→List α→aE}{φ:List α→Prop}(hb:W.heap[b]?=some (.cells C e fz))(hl:off+cs.length≤C.size)(hn:cs.length=len*k)(J:len≤cap)
 (hc:∀j v,cs[j]?=some v→C[off+j]?=some v)(hA:∀l m,aX (A l m))(ho:mU W cs A φ): mU W [.slice (some ⟨b,off,none⟩) len cap] (OQ k A) φ:=by
 intro c σ S h
 obtain⟨c1,I,vs,x,h1,e1,m1,w1,p1⟩:=ho c σ S h
 have hlen:vs.length=cs.length:=by grind
 obtain⟨g1,g2,g3,g4,g5⟩:=h1.1.fix h1.2.1 hb (cs:=vs) (off:=off) (by omega) (fun j v hv=>hc j _ (by grind)) w1
 refine⟨_,_,[.sl I.next 0 len (.exact cap)],x,⟨g1,g2,?_⟩,e1.trans g3,?_,fun v hv => ?_,p1⟩
 ·have s1:Sat (I.new (.cells vs.length vs true)) (.ro I.next (.cells vs.length vs true)::A vs x::S):=(h1.2.2.new _).freeze
  refine s1.two (aX.ro _ _) (hA _ _) fun m r k1 k2=>⟨_,vs,rfl,⟨some (I.next,len,cap),k1,rfl,by omega⟩,k2⟩
 ·simp[conc,g4]
 ·rw[List.mem_singleton.1 hv]
  exact⟨⟨g5,J⟩,rfl⟩
def byE (vs:List V)(l:List Nat): aE:=.xs fun v:V=>.an (.pu (vs=[v])) (.cL v l)
theorem Hz {W:World}{v:Value}(h:W.cell? a=some v): ∃b off,a=⟨b,off,none⟩∧∃C e fz,W.heap[b]?=some (.cells C e fz)∧C[off]?=some v:=by
 obtain⟨b,off,spot⟩:=a
 have hs:spot=none:=World.cell?_spot h
 grind[World.cell?]
theorem Dp {β:Type}{f:α→β}{l:List α}{b:β}(h:l.map f=[b]): ∃a,l=[a]∧f a=b:=by
 simp_all
end Go.Proofs.YtiojppeahfoiaaaGreat.Am
namespace Go.Proofs.YtiojppeahfoiaaaGreat.Am
open Go Go.ChangeShapes Go.WideShapes Go.ChangeAt Go.RowKit
variable {a:Addr} {C:Array Value} {c:Ctx} {σ:H} {cs:List Value} {b off k o fuel B:Nat} {fz:Nat×Nat} {α H':Type} {e t:TypeId}
theorem Rq {H:Type}(d:DataW H): 1≤Rows.uptoBulk d:=by
 cases d with
 |lit l=>cases l<;>simp[Rows.uptoBulk]
 |nil=>simp[Rows.uptoBulk]
 |ptr d=>simp[Rows.uptoBulk]
 |slice elems spare=>simp[Rows.uptoBulk]
 |agg parts=>simp[Rows.uptoBulk]
 |iface t d=>simp[Rows.uptoBulk]
 |map entries=>simp[Rows.uptoBulk]
 |held h=>simp[Rows.uptoBulk]
theorem tv {H:Type}{d:DataW H}: ∀ {l:List (DataW H)},d∈l→Rows.uptoBulk d≤Rows.uptoBulkAll l:=by
 intro l
 induction l<;>grind[Rows.uptoBulkAll]
theorem HA {H:Type}: ∀(l:List (DataW H)),l.length≤Rows.uptoBulkAll l:=by
 intro l
 induction l<;>grind[Rq,Rows.uptoBulkAll]
theorem Cf {H:Type}(a b:List (DataW H)): Rows.uptoBulk (.slice a b)=Rows.uptoBulkAll a+Rows.uptoBulkAll b+1:=by rfl
theorem JU {W:World}(I:W.heap[b]?=some (.cells C e fz)): W.cell? ⟨b,o,none⟩=C[o]?:=by
 grind[World.cell?]
section
variable {enc:TypeId×Value→H'} {W:World} {x:DataW H'×List MemPlace}
theorem Ua (h:DataW.trod enc Tryz.prog W 0 (fun _=>true) true fuel 23 cs=some x)(hB:Rows.uptoBulk x.1≤B): mU W cs byE (fun l=>l.length≤B):=by
 rcases open_ints aM Tryz.underlying5 (by kernel_rfl) h with⟨rfl,rfl⟩|⟨a,len,cap,zs,rfl,_,NQ,_,hz,rfl,I,kB⟩
 ·exact fun c σ S h=>⟨c,σ,[.aO],[],h.sat fun h s=>s.qH.gO fun m r k=>⟨.aO,rfl,k⟩,Ext.refl c,by rfl,fun v J=>by rw[List.mem_singleton.1 J];exact⟨aa,rfl⟩,eX _⟩
 ·rw[aF rfl] at hz
  by_cases h0:cap=0
  ·have:len=0:=by omega
   subst this
   subst h0
   exact fun c σ S h=>⟨c,σ,[.sle a],[],h.sat fun h s=>(s.fH (φ:=True) aa).gO fun m r k=>⟨.sle a,rfl,by simp,.inl ⟨.inr ⟨a,rfl⟩,rfl⟩⟩,Ext.refl c,by rfl,fun v J=>by rw[List.mem_singleton.1 J];exact⟨aa,rfl⟩,eX _⟩
  ·have g0:=I 0 (by omega)
   obtain⟨b,off,spot⟩:=a
   have hs:spot=none:=by simpa[Addr.add] using World.cell?_spot g0
   subst hs
   have I:∀i,i<zs.length→W.cell? ⟨b,off+i,none⟩=some (.int .u8 (zs.getD i 0)):=fun i hi=>by grind[add_plain]
   obtain⟨b',off',he,C,e,fz,hb,OK⟩:=Hz (I 0 (by omega))
   simp only[Addr.mk.injEq,and_true] at he
   obtain⟨rfl,rfl⟩:=he
   have hC:∀i,i<zs.length→C[off+i]?=some (.int .u8 (zs.getD i 0)):=fun i hi=>by grind[JU]
   have aaP:off<C.size:=by
    grind
   have hu8:∀z∈zs,0≤z∧z<256:=fun z hz=>by
    have:=kB z hz
    simp only[Lit.wf,bC,gn] at this
    have e1:IntKind.min .u8=0:=rfl
    have e2:IntKind.max .u8=255:=rfl
    omega
   have Nw:((zs.take len).map Int.toNat).length=len:=by grind
   have Ur:(ofBytes ((zs.take len).map Int.toNat)).length=len:=by rw[c_,Nw]
   have aaQ:∀y∈(zs.take len).map Int.toNat,y<256:=fun y hy=>by
    grind
   intro c σ S h
   have eR:off+(ofBytes ((zs.take len).map Int.toNat)).length≤C.size:=by
    by_cases vX:len=0
    ·omega
    ·have:=(Array.getElem?_eq_some_iff.1 (hC (len-1) (by omega))).1
     omega
   have aaR:∀j v,(ofBytes ((zs.take len).map Int.toNat))[j]?=some v→C[off+j]?=some (conc c v):=fun j v J=>by
    grind[ofBytes,List.getElem_mem,conc]
   obtain⟨g1,g2,g3,g4,g5⟩:=h.1.fix h.2.1 hb (off:=off) eR aaR (fun v J=>by obtain⟨n,_,rfl⟩:=List.mem_map.1 J;exact⟨aa,rfl⟩)
   refine⟨_,_,[.sl σ.next 0 len (.exact cap)],(zs.take len).map Int.toNat,⟨g1,g2,?_⟩,g3,?_,fun v J => ?_,?_⟩
   ·have s1:=(h.2.2.new (.cells (ofBytes ((zs.take len).map Int.toNat)).length (ofBytes ((zs.take len).map Int.toNat)) true)).freeze
    refine s1.gO fun m r k=>⟨_,rfl,aaQ,.inr ⟨σ.next,0,.exact cap,_,_,true,by rw[Nw],k,rfl,by omega,?_,?_⟩⟩<;>grind
   ·simp[conc,g4]
   ·rw[List.mem_singleton.1 J]
    exact⟨⟨g5,NQ⟩,rfl⟩
   ·rw[Cf] at hB
    have h1:=HA (lits (H:=H') .u8 (zs.take len))
    grind[lits]
theorem OR {E:List V→α→aE}{A:List V→List α→aE}{φ:α→Prop}(ht:Tryz.prog.underlying t=some (.slice e))(hk:Tryz.prog.cellsOf e=k)(h1:1≤k)
 (hE:∀vs x,aX (E vs x))(hA:∀l m,aX (A l m))(wI:∀m r,(A [] []).p m r)(Kb:∀vs x l m a b,(E vs x).p a b→(A l m).p a b→(A (vs++l) (x::m)).p a b)
 (Ml:∀n cs (y:DataW H'×List MemPlace),DataW.trod enc Tryz.prog W 0 (fun _=>true) true n e cs=some y→Rows.uptoBulk y.1≤B→mU W cs E φ)
 (h:DataW.trod enc Tryz.prog W 0 (fun _=>true) true fuel t cs=some x)(hB:Rows.uptoBulk x.1≤B): mU W cs (OQ k A) (fun xs=>xs.length≤B∧∀x∈xs,φ x):=by
 rcases DataW.trod_slice ht h with⟨rfl,rfl⟩|⟨a,len,cap,elems,rest,n,_,rfl,rfl,_,NQ,_,hlen,J,Gz,_⟩
 ·grind[mU.aaN]
 ·obtain⟨R6,Sn⟩:=Gz rfl
  rw[hk] at J Sn
  rw[Cf] at hB
  by_cases h0:cap=0
  ·simp_all[mU.WN]
  ·-- each element's cells
   have each:∀i,i<cap→∃cs,W.cells? 0 (a.add (i*k)) k=some cs:=fun i hi=>by
    by_cases Mw:i<len
    ·have h2:=J i Mw
     rw[bp (by omega)] at h2
     obtain⟨cs,h3,_⟩:=Option.bind_eq_some_iff.1 h2
     exact⟨cs,h3⟩
    ·have h2:=Sn (i-len) (by omega)
     rw[bp (by omega),show len+(i-len)=i by omega] at h2
     obtain⟨cs,h3,_⟩:=Option.bind_eq_some_iff.1 h2
     exact⟨cs,h3⟩
   obtain⟨cs0,aaS⟩:=each 0 (by omega)
   obtain⟨_,vX,OK⟩:=World.cells?_some aaS
   have g0:=OK 0 (by omega)
   obtain⟨v0,hv0⟩:∃v,cs0[0]?=some v:=⟨_,bp (by omega)⟩
   rw[hv0] at g0
   obtain⟨b,off,spot⟩:=a
   have hs:spot=none:=by simpa[Addr.add] using World.cell?_spot g0
   subst hs
   simp only[add_plain,uc,nq] at g0
   obtain⟨b',off',he,C,ty,fz,hb,AZ⟩:=Hz g0
   simp only[Addr.mk.injEq,and_true] at he
   obtain⟨rfl,rfl⟩:=he
   have aaP:off<C.size:=(Array.getElem?_eq_some_iff.1 AZ).1
   -- the rows
   have rows:∀i,i<len→∃cs,cs.length=k∧mU W cs E φ∧∀q v,cs[q]?=some v→C[off+i*k+q]?=some v:=fun i hi=>by
    have h2:=J i hi
    rw[bp (by omega)] at h2
    obtain⟨cs,h3,h4⟩:=Option.bind_eq_some_iff.1 h2
    obtain⟨_,hl,hc⟩:=World.cells?_some h3
    refine⟨cs,hl,Ml n cs _ h4 ?_,fun q v hq => ?_⟩
    ·have:=tv (l:=elems.map (·.1)) (Cl (tY (l:=elems) (n:=i) (by omega)))
     omega
    ·have hqk:q<k:=by grind
     have:=hc q hqk
     rw[add_plain,add_plain,JU hb,hq] at this
     exact this
   have build:∀m,m≤len→∃I:List (List Value),I.length=m∧(∀cs∈I,mU W cs E φ)∧I.flatten.length=m*k∧∀j v,I.flatten[j]?=some v→C[off+j]?=some v:=by
    intro m
    induction m with
    |zero=>simp
    |succ m ih =>
     intro hm
     obtain⟨I,i1,i2,i3,i4⟩:=ih (by omega)
     obtain⟨cs,r1,r2,r3⟩:=rows m (by omega)
     refine⟨I++[cs],by simp[i1],fun y hy => ?_,by simp[i3,r1,nr],fun j v hj => ?_⟩
     ·rcases List.mem_append.1 hy with hy|hy<;>grind[List.mem_singleton]
     ·rw[List.flatten_append,List.flatten_singleton] at hj
      by_cases cA:j<m*k
      ·grind
      ·rw[tN (by omega),i3] at hj
       have:=r3 _ v hj
       rwa [show off+m*k+(j-m*k)=off+j by omega] at this
   obtain⟨I,b1,b2,b3,b4⟩:=build len (aS _)
   have eR:off+I.flatten.length≤C.size:=by
    by_cases vX:len*k=0
    ·omega
    ·obtain⟨v,hv⟩:∃v,I.flatten[len*k-1]?=some v:=⟨_,bp (by omega)⟩
     have:=(Array.getElem?_eq_some_iff.1 (b4 _ v hv)).1
     omega
   have main:=mU.aaO (k:=k) (len:=len) (cap:=cap) hb eR b3 NQ b4 hA (mU.rows hE hA wI Kb I b2)
   intro c σ S h
   obtain⟨c1,WM,vs,x,q1,q2,q3,q4,q5,q6⟩:=main c σ S h
   refine⟨c1,WM,vs,x,q1,q2,q3,q4,?_,q6⟩
   have:=HA (elems.map (·.1))
   rw[fE] at this
   omega
end
end Go.Proofs.YtiojppeahfoiaaaGreat.Am
namespace Go.Proofs.YtiojppeahfoiaaaGreat.Am
open Go Go.ChangeShapes Go.WideShapes Go.ChangeAt Go.RowKit
variable {a:Addr} {C:Array Value} {c:Ctx} {σ:H} {cs:List Value} {b off k o fuel B:Nat} {fz:Nat×Nat} {α H':Type} {e t:TypeId}
noncomputable def JV (P:Program)(t:TypeId): Array Field:=match P.underlying t with
 |some (.struct I)=>I
 |_ => #[]
def Dq (I:Array Field)(i:Nat): Option (TypeId×Nat):=(I[i]?).map fun f=>(f.type,f.offset)
theorem Yh : Tryz.prog.underlying 59=some (.struct (JV Tryz.prog 59)):=by kernel_rfl
theorem Sq : Tryz.prog.cellsOf 59=4:=by kernel_rfl
theorem LI : Tryz.prog.cellsOf 3=1:=by kernel_rfl
theorem Yi : (JV Tryz.prog 59).size=4:=by kernel_rfl
theorem Yj : Dq (JV Tryz.prog 59) 0=some (3,0):=by kernel_rfl
theorem Yk : Dq (JV Tryz.prog 59) 1=some (3,1):=by kernel_rfl
theorem Yl : Dq (JV Tryz.prog 59) 2=some (3,2):=by kernel_rfl
theorem Ym : Dq (JV Tryz.prog 59) 3=some (2,3):=by kernel_rfl
theorem Yn : Tryz.prog.cellsOf 2=1:=by kernel_rfl
theorem yZ {I:Array Field}{i:Nat}(h:Dq I i=some (t,o)): ∃f,I[i]?=some f∧f.type=t∧f.offset=o:=by
 grind[Dq]
theorem OS {l:List α}(h:l.length=4): ∃a b c d,l=[a,b,c,d]:=by
 rcases l with _|⟨a,_|⟨b,_|⟨c,_|⟨d,_|⟨e,l⟩⟩⟩⟩⟩<;>simp at h
 exact⟨a,b,c,d,rfl⟩
def ZE (vs:List V)(D:Int×Int×Int×Int): aE:=.pu (vs=[.int .i64 D.1,.int .i64 D.2.1,.int .i64 D.2.2.1,.int .i64 D.2.2.2])
def d4A (l:List V)(m:List (Int×Int×Int×Int)): aE:=.pu (l=iW m)
section
variable {enc:TypeId×Value→H'} {W:World} {x:DataW H'×List MemPlace}
theorem Ub (h:DataW.trod enc Tryz.prog W 0 (fun _=>true) true fuel 59 cs=some x): mU W cs ZE (fun _=>True):=by
 obtain⟨xs,n,rfl,rfl,hl,hx,hf⟩:=DataW.trod_struct Yh h
 rw[Sq] at hl
 rw[Yi] at hx
 obtain⟨f0,a0,b0,c0⟩:=yZ Yj
 obtain⟨f1,a1,b1,c1⟩:=yZ Yk
 obtain⟨f2,a2,b2,c2⟩:=yZ Yl
 obtain⟨f3,a3,b3,c3⟩:=yZ Ym
 have h0:=hf 0 f0 a0
 have h1:=hf 1 f1 a1
 have h2:=hf 2 f2 a2
 have h3:=hf 3 f3 a3
 rw[b0,c0,LI] at h0
 rw[b1,c1,LI] at h1
 rw[b2,c2,LI] at h2
 rw[b3,c3,Yn] at h3
 obtain⟨v0,v1,v2,v3,rfl⟩:=OS hl
 obtain⟨y0,y1,y2,y3,rfl⟩:=OS hx
 have h0:DataW.trod enc Tryz.prog W 0 (fun _=>true) true n 3 [v0]=some y0:=h0
 have h1:DataW.trod enc Tryz.prog W 0 (fun _=>true) true n 3 [v1]=some y1:=h1
 have h2:DataW.trod enc Tryz.prog W 0 (fun _=>true) true n 3 [v2]=some y2:=h2
 have h3:DataW.trod enc Tryz.prog W 0 (fun _=>true) true n 2 [v3]=some y3:=h3
 obtain⟨m0,I,_,_⟩:=DataW.trod_int bz h0
 injection I with I _
 subst I
 obtain⟨m1,J,_,_⟩:=DataW.trod_int bz h1
 injection J with J _
 subst J
 obtain⟨m2,sM,_,_⟩:=DataW.trod_int bz h2
 injection sM with sM _
 subst sM
 obtain⟨m3,OT,_,_⟩:=DataW.trod_int uW h3
 injection OT with OT _
 subst OT
 exact fun c σ S hr=>⟨c,σ,[.int .i64 m0,.int .i64 m1,.int .i64 m2,.int .i64 m3],(m0,m1,m2,m3),hr.sat fun h s=>(s.fH (φ:=True) aa).gO fun a b k=>rfl,Ext.refl c,by rfl,fun v hv=>by
  simp only[gY,iu,j8] at hv
  rcases hv with rfl|rfl|rfl|rfl<;>exact⟨aa,rfl⟩,aa⟩
theorem HB (h:DataW.trod enc Tryz.prog W 0 (fun _=>true) true fuel 48 cs=some x)(I:Rows.uptoBulk x.1≤B): mU W cs (OQ 4 d4A) (fun xs=>xs.length≤B∧∀y∈xs,True) :=
 OR (E:=ZE) mS Sq (by decide) (fun _ _=>aX.pu _) (fun _ _=>aX.pu _) (fun _ _=>rfl) (fun vs x l m a b J h2=>by
  subst J
  subst h2
  exact(rfl:_=iW (x::m))) (fun n cs y hy _=>Ub hy) h I
end
end Go.Proofs.YtiojppeahfoiaaaGreat.Am
namespace Go.Proofs.YtiojppeahfoiaaaGreat.Am
open Go Go.ChangeShapes Go.WideShapes Go.ChangeAt Go.RowKit
variable {a:Addr} {C:Array Value} {c:Ctx} {σ:H} {cs:List Value} {b off k o fuel B:Nat} {fz:Nat×Nat} {α H':Type} {e t:TypeId}
noncomputable def LJ : List (Nat×Sg):=[(76,yY),(136,tI 136),(159,tI 159),
 (208,LB 208),(80,tI 80),(79,tI 79),
 (26,Lv CK 26),(191,Lq)]
noncomputable def LK : Nat→Option (List V→H→Option (V×H)):=toldP LJ mY
noncomputable abbrev CT : dR:=⟨Tryz.prog,LK⟩
theorem JW : W LK:=JM fun x I=>by
 simp only[LJ,gY,iu,j8] at I
 rcases I with rfl|rfl|rfl|rfl|rfl|rfl|rfl|rfl<;>exact⟨by decide,by decide,by decide⟩
theorem HC : dA CT:=Hg fun x I=>by
 simp only[LJ,gY,iu,j8] at I
 rcases I with rfl|rfl|rfl|rfl|rfl|rfl|rfl|rfl
 ·exact⟨_,B4,rfl,by decide⟩
 ·exact⟨_,GX,rfl,by decide⟩
 ·exact⟨_,GY,rfl,by decide⟩
 ·exact⟨_,G1,rfl,by decide⟩
 ·exact⟨_,G0,rfl,by decide⟩
 ·exact⟨_,Gk,rfl,by decide⟩
 ·exact⟨_,GZ,rfl,by decide⟩
 ·exact⟨_,GR,rfl,by decide⟩
theorem Rr : WX LK:=⟨⟨⟨⟨JW,rfl⟩,⟨JW,rfl⟩,rfl,rfl⟩,rfl⟩,rfl,rfl,rfl⟩
theorem gD.okT {f:FuncId}{args:List V}{h h':H}{v:V}(hd:gD CT f args h v h'){w:World}(I:Rel c h w)(hw:∀x∈args,wf c x): eE Tryz.prog f args c w v h':=by
 obtain⟨N,J⟩:=hd
 exact(callF_ok (C:=CT) (vj jK HC N).1 HC J I hw).1
theorem Iv {enc:TypeId×Value→H'}{W:World}{EY Yo Yp:Nat}{x1 x2 x3:DataW H'×List MemPlace}{v0 v1 v2:Value}{ka kb:Bool}(h1:DataW.trod enc Tryz.prog W 0 (fun _=>true) true EY 48 [v0]=some x1)(hB1:Rows.uptoBulk x1.1≤1048576)
 (h2:DataW.trod enc Tryz.prog W 0 (fun _=>true) true Yo 48 [v1]=some x2)(hB2:Rows.uptoBulk x2.1≤1048576)(h3:DataW.trod enc Tryz.prog W 0 (fun _=>true) true Yp 23 [v2]=some x3)(hB3:Rows.uptoBulk x3.1≤1048576):
  Calls Tryz.prog 4 #[v0,v1,v2,.bool ka,.bool kb] W fun e w'=>e=.returned (.bool true)∧W.keptBut w' (fun _=>False)∧W.heap.size≤w'.heap.size∧∀b,b<W.heap.size→w'.heap[b]?=W.heap[b]?:=by
 obtain⟨c0,σ0,h0⟩:=xS.zero W
 obtain⟨c1,WM,vs1,da,Bh,_,rV,aaT,hL1⟩:=HB h1 hB1 c0 σ0 [] h0
 obtain⟨av,rfl,sZ⟩:=Dp rV
 obtain⟨c2,σ2,vs2,db,MC,Yq,sM,aaU,Zt⟩:=HB h2 hB2 c1 WM _ Bh
 obtain⟨bv,rfl,hbv⟩:=Dp sM
 obtain⟨c,σ,vs3,mix,hr,I,OT,aaV,hL3⟩:=Ua h3 hB3 c2 σ2 _ MC
 obtain⟨mv,rfl,hmv⟩:=Dp OT
 have sN:=bL Yq av (aaT av (by simp)).1
 have J:=bL I av sN.2
 have sx:=bL I bv (aaU bv (by simp)).1
 obtain⟨mv',s⟩:=gT.1 hr.2.2
 have s0:=s
 obtain⟨_,_,_,_,hk⟩:=s0.at (k:=0) rfl
 have e:[mv]=[mv']:=hk.1
 injection e with e _
 subst e
 have s:=s.gO (B:=.cL mv mix) fun _ _ k=>k.2
 obtain⟨VH,s⟩:=gT.1 (s.ae [1])
 obtain⟨cs,s⟩:=gT.1 s
 have s0:=s
 obtain⟨_,_,_,_,hk⟩:=s0.at (k:=0) rfl
 have e:[bv]=[VH]:=hk.1
 injection e with e _
 subst e
 have ec:cs=iW db:=hk.2.2
 subst ec
 have s:=s.gO (B:=kz 4 bv (iW db)) fun _ _ k=>k.2.1
 obtain⟨nR,s⟩:=gT.1 (s.ae [2])
 obtain⟨cs,s⟩:=gT.1 s
 have s0:=s
 obtain⟨_,_,_,_,hk⟩:=s0.at (k:=0) rfl
 have e:[av]=[nR]:=hk.1
 injection e with e _
 subst e
 have ec:cs=iW da:=hk.2.2
 subst ec
 have s:=s.gO (B:=kz 4 av (iW da)) fun _ _ k=>k.2.1
 obtain⟨v',h',Mr,rfl⟩:=OP (ka:=ka) (kb:=kb) Rr hL1.1 Zt.1 hL3 s
 have g_:=Mr.okT hr.1 (fun x hx=>by
  simp only[gY,iu,j8] at hx
  rcases hx with rfl|rfl|rfl|rfl|rfl
  ·exact J.2
  ·exact sx.2
  ·exact(aaV _ (by simp)).1
  ·exact aa
  ·exact aa)
 unfold eE at g_
 have ea:(([av,bv,mv,.bool ka,.bool kb].map (conc c)).toArray) = #[v0,v1,v2,.bool ka,.bool kb]:=by simp[J.1,sN.1,sZ,sx.1,hbv,hmv,conc]
 rw[ea] at g_
 refine Calls.mono g_ ?_
 rintro e w' ⟨c',rfl,_,_,hs⟩
 obtain⟨k1,k2,k3⟩:=Iu hr.2.1 hs
 exact⟨by simp[conc],k1,k2,k3⟩
end Go.Proofs.YtiojppeahfoiaaaGreat.Am
namespace Go.Proofs.YtiojppeahfoiaaaGreat.TxOrders
open Go.ChangeShapes Go.WideShapes Go.ChangeAt Go.RowKit
theorem own : ownKnob Tryz.prog.godebug=none:=by kernel_rfl
theorem laid : laidOutB Tryz.prog=true:=by kernel_rfl
theorem LL : Tryz.prog.readableRec 48=true:=by kernel_rfl
theorem row : (48:TypeId)<Tryz.prog.types.size:=of_decide_eq_true (by kernel_rfl)
theorem Sr : Tryz.prog.readableRec 23=true:=by kernel_rfl
theorem aaW : (23:TypeId)<Tryz.prog.types.size:=of_decide_eq_true (by kernel_rfl)
set_option maxRecDepth 100000 in
theorem Rs (H:Type)(enc:TypeId×Value→H)(W:World)(base:Nat)(args:Array Value)(ds gs:List (DataW H))(before:List MemPlace)
 (I:∀(j:Nat) t v,Tryz.f4.params[j]?=some t→args[j]?=some v→Value.okWide Tryz.prog W .any base t v)
 (hW:DataW.Whole enc Tryz.prog Tryz.f4.params.toList Rows.txOrdersSpec.vars false W args.toList ds gs before)(hk:Rows.uptoBulkAll (ds++gs)≤1048576):
  Calls Tryz.prog 4 args W fun e W'=>∃v,e=.returned v∧Rows.txOrdersSpec.post enc Tryz.prog Tryz.f4 false true false false W args v W':=by
 have Ss:=hW
 obtain⟨p,q,hA0,hV,rfl,y9,nZ⟩:=hW
 have hA:DataW.TrodAll enc Tryz.prog W 0 (fun _=>true) true Tryz.f4.params.toList args.toList ds p:=hA0
 rw[Tryz.params4] at hA I
 obtain⟨v0,vs0,d0,ds0,p0,q0,yw,rfl,rfl,h0,r0⟩:=trodAll_cons hA
 obtain⟨v1,vs1,d1,ds1,p1,q1,rfl,rfl,rfl,h1,r1⟩:=trodAll_cons r0
 obtain⟨v2,vs2,d2,ds2,p2,q2,rfl,rfl,rfl,h2,r2⟩:=trodAll_cons r1
 obtain⟨v3,vs3,d3,ds3,p3,q3,rfl,rfl,rfl,h3,r3⟩:=trodAll_cons r2
 obtain⟨v4,vs4,d4,ds4,p4,q4,rfl,rfl,rfl,h4,r4⟩:=trodAll_cons r3
 obtain⟨rfl,rfl,rfl⟩:=trodAll_nil r4
 obtain rfl:args = #[v0,v1,v2,v3,v4]:=by cases args;simp_all
 obtain⟨rfl,rfl⟩:=trodVars_none hV
 obtain⟨ka,rfl,rfl,rfl⟩:=open_bool Tryz.underlying4 (I 3 4 v3 rfl rfl) h3
 obtain⟨kb,rfl,rfl,rfl⟩:=open_bool Tryz.underlying4 (I 4 4 v4 rfl rfl) h4
 obtain⟨Su,h0⟩:=h0
 obtain⟨EY,h1⟩:=h1
 obtain⟨fuel,h2⟩:=h2
 have WQ:v0.cells.toList=[v0]:=by
  have:=I 0 48 v0 rfl rfl
  simp only[Value.okWide,Tryz.underlying48,Cell.okWide,Cell.ok] at this
  split at this<;>first|rfl|exact this.elim
 have WS:v1.cells.toList=[v1]:=by
  have:=I 1 48 v1 rfl rfl
  simp only[Value.okWide,Tryz.underlying48,Cell.okWide,Cell.ok] at this
  split at this<;>first|rfl|exact this.elim
 have u7:v2.cells.toList=[v2]:=by
  have:=I 2 23 v2 rfl rfl
  simp only[Value.okWide,Tryz.underlying23,Cell.okWide,Cell.ok] at this
  split at this<;>first|rfl|exact this.elim
 have h0':=h0
 rw[WQ] at h0
 have Ry:=h1
 rw[WS] at h1
 have Fv:=h2
 rw[u7] at h2
 have sH:Rows.uptoBulk d0≤1048576:=by
  have:=Am.tv (l:=([d0,d1,d2,DataW.lit (Lit.bool ka),DataW.lit (Lit.bool kb)]++([]:List (DataW H)))) (d:=d0) (by simp)
  exact Nat.le_trans this hk
 have wE:Rows.uptoBulk d1≤1048576:=by
  have:=Am.tv (l:=([d0,d1,d2,DataW.lit (Lit.bool ka),DataW.lit (Lit.bool kb)]++([]:List (DataW H)))) (d:=d1) (by simp)
  exact Nat.le_trans this hk
 have hb:Rows.uptoBulk d2≤1048576:=by
  have:=Am.tv (l:=([d0,d1,d2,DataW.lit (Lit.bool ka),DataW.lit (Lit.bool kb)]++([]:List (DataW H)))) (d:=d2) (by simp)
  exact Nat.le_trans this hk
 refine(Am.Iv h0 sH h1 wE h2 hb).mono fun e W' ⟨he,hg,hs,Sv⟩ => ?_
 subst he
 have WU:∀x∈p0,x.block<W.heap.size:=fun x J=>Ss.lt x (by simp[J])
 have WV:∀x∈p1,x.block<W.heap.size:=fun x J=>Ss.lt x (by simp[J])
 have cA:∀x∈p2,x.block<W.heap.size:=fun x J=>Ss.lt x (by simp[J])
 have iO:∀ {p:List MemPlace},(∀x∈p,x.block<W.heap.size)→∀x∈p,match x with|.cell b off=>W'.cell? ⟨b,off,none⟩=W.cell? ⟨b,off,none⟩|.map b=>W'.heap[b]?=W.heap[b]?:=fun hp x J=>by
  have hl:=hp x J
  cases x with
  |cell b off =>
   show W'.cell? ⟨b,off,none⟩=W.cell? ⟨b,off,none⟩
   unfold World.cell?
   rw[Sv b hl]
  |map b=>exact Sv b hl
 have WW:DataW.trod enc Tryz.prog W' 0 (fun b=>decide (b<W.heap.size)) true Su 48 v0.cells.toList=some (d0,p0) :=
  DataW.trod_stays (kids_book laid LL) (book_sized LL) (fun h=>by cases h) ⟨row,book_self _⟩ h0' (iO WU) (fun x J=>by simpa using WU x J)
 have WY:DataW.trod enc Tryz.prog W' 0 (fun b=>decide (b<W.heap.size)) true EY 48 v1.cells.toList=some (d1,p1) :=
  DataW.trod_stays (kids_book laid LL) (book_sized LL) (fun h=>by cases h) ⟨row,book_self _⟩ Ry (iO WV) (fun x J=>by simpa using WV x J)
 have Yr:DataW.trod enc Tryz.prog W' 0 (fun b=>decide (b<W.heap.size)) true fuel 23 v2.cells.toList=some (d2,p2) :=
  DataW.trod_stays (kids_book laid Sr) (book_sized Sr) (fun h=>by cases h) ⟨aaW,book_self _⟩ Fv (iO cA) (fun x J=>by simpa using cA x J)
 exact⟨_,rfl,⟨_,[],_,[],_,[],Ss,trodAll_cons_mk (shut_bool Tryz.underlying4 _) trodAll_mk0,trodAll_cons_mk ⟨Su,WW⟩ (trodAll_cons_mk ⟨EY,WY⟩ (trodAll_cons_mk ⟨fuel,Yr⟩ (trodAll_cons_mk (shut_bool Tryz.underlying4 ka) (trodAll_cons_mk (shut_bool Tryz.underlying4 kb) trodAll_mk0)))),rfl,World.keptBut_mono (fun _ f=>f.elim) hg,fun h=>by cases h⟩⟩
set_option maxRecDepth 100000 in
theorem lifted (os:Os)(started:os.Started)(H:Type)(enc:TypeId×Value→H)(F:Stop.Interp):
  ReturnsInHanded {} Tryz.checked os 4 .any ((Rows.OpenSpec.upto Rows.txOrdersSpec).pre6 enc Tryz.prog Tryz.f4 Rows.txOrdersUptoRow.domain false) (((Rows.OpenSpec.upto Rows.txOrdersSpec).at F).post enc Tryz.prog Tryz.f4 false true false false):=by
 refine returnsInHanded_of_cond (C:=Tryz.checked) (s:=Rows.OpenSpec.upto Rows.txOrdersSpec) (k:=Rows.uptoSmall) rfl own started (by kernel_rfl) Tryz.func4
  (OpenSpec.witness (enc:=enc) (C:=Tryz.checked) (s:=Rows.OpenSpec.upto Rows.txOrdersSpec) (k:=Rows.uptoSmall) rfl false ⟨#[], #[.slice none 0 0,.slice none 0 0,.slice none 0 0,.bool false,.bool false],[]⟩ 8 (by kernel_rfl) (by kernel_rfl) (by kernel_rfl)
   (x:=([.nil,.nil,.nil,.lit (.bool false),.lit (.bool false)],[],[])) (by kernel_rfl) rfl (by kernel_rfl)) ?_
 intro W base args ds gs before I J _ hk _
 exact Rs H enc W base args ds gs before I J (of_decide_eq_true hk)
theorem bS : Rows.txOrdersUptoRow.holds Tryz.pinned (Rows.OpenSpec.upto Rows.txOrdersSpec) :=
 OpenClaim.holds_of_cond 4 Tryz.f4 rfl rfl rfl rfl rfl rfl rfl ⟨rfl,rfl,rfl,rfl,rfl⟩ rfl rfl rfl rfl rfl (by kernel_rfl) Tryz.func4 (by kernel_rfl)
  (of_decide_eq_true (by kernel_rfl)) (by unfold Func.isWrapper;first|(rw[if_pos (by decide +kernel)];kernel_rfl)|(rw[if_neg (by decide +kernel)];exact⟨rfl,rfl⟩))
  (fun os started H enc _ F=>lifted os started H enc F)
theorem proved : Rows.TxOrdersUptoSaid :=
 bS
#print axioms proved
end Go.Proofs.YtiojppeahfoiaaaGreat.TxOrders
