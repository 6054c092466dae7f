/- 'munimentlaw11.TreeWalk' returns true whatever its arguments, where what it reads is of bulk at most 1048576; the input reads as it did, and nothing that lay before the call has turned. Conditions: that bound alone. -/
import Derived.Test.YtdonpgpfplgigaaGreatM04
import Derived.Test.YtdonpgpfplgigaaGreatM05
import Derived.WalkKit
import Derived.ProofKit
import Derived.OpenShut
import Derived.ChangeSlices
import Derived.Test.YtdonpgpfplgigaaGreatRows
import Derived.Test.YtdonpgpfplgigaaGreatM07
import Derived.JoinedCond
import Derived.ChangeBook
import Derived.ChangeStays
set_option linter.defProp false
namespace Go.Proofs.YtdonpgpfplgigaaGreat.Am
open Go
def zH:=@Tryz.underlying57
variable {a:Addr} {C:Array Value} {c:Ctx} {σ h:H} {S:List aE} {es:List En} {cs:List Value} {b off k fuel B i:Nat} {fz:Nat×Nat} {α H':Type} {e t:TypeId} {w:World}
def L5 (c:Ctx): Prop:=∀id,id<c.N→c.X id=true
noncomputable def Ctx.fix (c:Ctx)(w:World)(b off:Nat): Ctx:=⟨fun i=>if i=c.N then(b,off) else c.ρ i,fun x=>if x=b then rowSize w b else c.Z x,c.N+1,fun i=>if i=c.N then true else c.X i⟩
theorem Rel.fix (h:Rel c σ w)(hX:L5 c){cs:List V}(hb:w.heap[b]?=some (.cells C e fz))(hl:off+cs.length≤C.size)
 (hc:∀j v,cs[j]?=some v→C[off+j]?=some (conc c v))(oN:∀v∈cs,wf c v∧storable v=true):
  Rel (c.fix w b off) (σ.new (.cells cs.length cs true)) w∧L5 (c.fix w b off)∧Ext c (c.fix w b off)∧(c.fix w b off).ρ σ.next=(b,off)∧σ.next<(c.fix w b off).N:=by
 have hold:∀i,i<c.N→(c.fix w b off).ρ i=c.ρ i:=fun i hi=>by grind[Ctx.fix]
 have Fa:∀i,i<c.N→(c.fix w b off).X i=c.X i:=fun i hi=>by grind[Ctx.fix]
 have nJ:(c.fix w b off).ρ c.N=(b,off):=by simp[Ctx.fix]
 have hnX:(c.fix w b off).X c.N=true:=by simp[Ctx.fix]
 have hN:(c.fix w b off).N=c.N+1:=rfl
 have cq:b<w.heap.size:=(Array.getElem?_eq_some_iff.1 hb).1
 have I:L5 (c.fix w b off):=fun i hi=>by
  by_cases h1:i=c.N
  ·grind
  ·rw[Fa i (by omega)];exact hX i (by omega)
 have ex:Ext c (c.fix w b off):=⟨by omega,hold,fun i hi=>by
  show(if (c.ρ i).1=b then rowSize w b else c.Z (c.ρ i).1)=_
  split
  ·rename_i he;rw[h.zz i hi,he]
  ·rfl,Fa⟩
 have key:∀i o,(σ.new (.cells cs.length cs true)).tr.get i=some o→(i=c.N∧o=.cells cs.length cs true)∨(i<c.N∧σ.tr.get i=some o):=by
  intro i o hi
  rw[iX,h.next] at hi
  by_cases h1:i=c.N
  ·grind
  ·simp[h1] at hi;exact .inr ⟨h.live i o hi,hi⟩
 refine⟨⟨by simp[H.new,h.next,hN],fun i o hi => ?_,fun i hi => ?_,fun i hi => ?_,fun i j o o' hi hj he => ?_,fun i o hi => ?_,fun i wL rz hi hx => ?_,fun i o hi hx => ?_⟩,I,ex,by rw[h.next];exact nJ,by rw[h.next,hN];omega⟩
 ·grind
 ·by_cases h1:i=c.N
  ·grind
  ·rw[hold i (by omega)];exact h.oM i (by omega)
 ·by_cases h1:i=c.N
  ·rw[h1,nJ];show(if b=b then rowSize w b else c.Z b)=_;rw[ay rfl]
  ·rw[hold i (by omega)]
   show(if (c.ρ i).1=b then rowSize w b else c.Z (c.ρ i).1)=_
   split
   ·grind
   ·exact h.zz i (by omega)
 ·have li:i<c.N+1:=by grind
  have lj:j<c.N+1:=by grind
  exact .inr ⟨I i (by omega),I j (by omega)⟩
 ·rcases key i o hi with⟨rfl,rfl⟩|⟨a1,a2⟩
  ·refine⟨rfl,fun v hv=>⟨(cT ex v (oN v hv).1).2,(oN v hv).2⟩,C,e,fz,by grind,by grind,fun j v hj => ?_,aa⟩<;>grind[cT]
  ·exact(h.obj i o a2).later ex a1 rfl
 ·have li:i<c.N+1:=by grind
  rw[I i (by omega)] at hx;cases hx
 ·rcases key i o hi with⟨_,rfl⟩|⟨a1,a2⟩
  ·simp
  ·rw[Fa i a1] at hx;exact h.fx i o a2 hx
theorem MV {c':Ctx}{w':World}(hX:L5 c)(h:c_ c w c' w'): w.keptBut w' (fun _=>False)∧w.heap.size≤w'.heap.size∧∀b,b<w.heap.size→w'.heap[b]?=w.heap[b]?:=by
 have hk:∀b,b<w.heap.size→w'.heap[b]?=w.heap[b]?:=fun b hb=>h.qg b hb fun id I _=>hX id I
 refine⟨⟨h.sys.1,h.sys.2,fun i hi => ?_⟩,h.size,hk⟩
 rw[hk i hi]
 split<;>simp_all
end Go.Proofs.YtdonpgpfplgigaaGreat.Am
namespace Go.Proofs.YtdonpgpfplgigaaGreat.Am
open Go Go.ChangeShapes
variable {a:Addr} {C:Array Value} {c:Ctx} {σ h:H} {S:List aE} {es:List En} {cs:List Value} {b off k fuel B i:Nat} {fz:Nat×Nat} {α H':Type} {e t:TypeId} {w:World}
def CI (W:World)(S:List aE)(c:Ctx)(σ:H): Prop:=Rel c σ W∧L5 c∧Sat σ S
theorem CI.zero (W:World): ∃c σ,CI W [] c σ:=by
 refine⟨_,_,Rel.empty W,fun id h=>absurd h (vp _),⟨fun id o h=>by simp[T.vN] at h,fun _=>none,fun _=>none,fun _ _ h=>(by cases h),fun _ _ h=>(by cases h),fun _=>.inl rfl,aa⟩⟩
theorem CI.sat {W:World}{S':List aE}(h:CI W S c σ)(hs:∀h,Sat h S→Sat h S'): CI W S' c σ:=⟨h.1,h.2.1,hs σ h.2.2⟩
def qF {α:Type}(W:World)(cs:List Value)(E:List V→α→aE)(φ:α→Prop): Prop :=
 ∀(c:Ctx) (σ:H) (S:List aE),CI W S c σ→∃(c':Ctx) (eP:H) (vs:List V) (x:α),CI W (E vs x::S) c' eP∧Ext c c'∧vs.map (conc c')=cs∧(∀v∈vs,wf c' v∧storable v=true)∧φ x
theorem qF.rows {W:World}{E:List V→α→aE}{A:List V→List α→aE}{φ:α→Prop}(hE:∀vs x,aJ (E vs x))(hA:∀l m,aJ (A l m))(Bz:∀m r,(A [] []).p m r)(Fe:∀vs x l m a b,(E vs x).p a b→(A l m).p a b→(A (vs++l) (x::m)).p a b):
  ∀(I:List (List Value)),(∀cs∈I,qF W cs E φ)→qF W I.flatten A (fun xs=>xs.length=I.length∧∀x∈xs,φ x):=by
 intro I
 induction I with
 |nil =>
  intro _ c σ S h
  exact⟨c,σ,[],[],h.sat fun h s=>(s.gQ (φ:=True) aa).dQ fun m r _=>Bz m r,Ext.refl c,rfl,fun v hv=>(by cases hv),rfl,fun x hx=>(by cases hx)⟩
 |cons cs I ih =>
  intro hc c σ S h
  obtain⟨c1,σ1,l,m,h1,e1,m1,w1,n1,p1⟩:=ih (fun x hx=>hc x (bA _ hx)) c σ S h
  obtain⟨c2,σ2,vs,x,h2,e2,m2,w2,p2⟩:=hc cs bB c1 σ1 _ h1
  obtain⟨q1,q2⟩:=oT e2 fun v hv=>(w1 v hv).1
  refine⟨c2,σ2,vs++l,x::m,h2.sat fun h s=>s.two (hE _ _) (hA _ _) fun a b k1 k2=>Fe _ _ _ _ _ _ k1 k2,e1.trans e2,?_,fun v hv => ?_,by grind,fun y hy => ?_⟩<;>grind
def TD {α:Type}(k:Nat)(A:List V→List α→aE)(vs:List V)(x:List α): aE:=.xs fun v:V=>.xs fun cs:List V=>.an (.pu (vs=[v])) (.an (qO k v cs) (A cs x))
theorem qF.aec {W:World}{A:List V→List α→aE}{φ:List α→Prop}(I:∀m r,(A [] []).p m r)(hφ:φ []): qF W [.slice none 0 0] (TD k A) φ:=fun c σ S h =>
 ⟨c,σ,[.aR],[],h.sat fun h s=>(s.gQ (φ:=True) aa).dQ fun m r _=>⟨.aR,[],rfl,⟨none,.inl rfl,rfl⟩,I m r⟩,Ext.refl c,by rfl,fun v hv=>by rw[List.mem_singleton.1 hv];exact⟨aa,rfl⟩,hφ⟩
theorem qF.abr {W:World}{A:List V→List α→aE}{φ:List α→Prop}(I:∀m r,(A [] []).p m r)(hφ:φ []): qF W [.slice (some a) 0 0] (TD k A) φ:=fun c σ S h =>
 ⟨c,σ,[.sle a],[],h.sat fun h s=>(s.gQ (φ:=True) aa).dQ fun m r _=>⟨.sle a,[],rfl,⟨none,.inr ⟨a,rfl⟩,rfl⟩,I m r⟩,Ext.refl c,by rfl,fun v hv=>by rw[List.mem_singleton.1 hv];exact⟨aa,rfl⟩,hφ⟩
theorem qF.aed {W:World}{len cap:Nat}{A:List V→List α→aE}{φ:List α→Prop}(hb:W.heap[b]?=some (.cells C e fz))(hl:off+cs.length≤C.size)(hn:cs.length=len*k)(J4:len≤cap)
 (hc:∀j v,cs[j]?=some v→C[off+j]?=some v)(hA:∀l m,aJ (A l m))(ho:qF W cs A φ): qF W [.slice (some ⟨b,off,none⟩) len cap] (TD k A) φ:=by
 intro c σ S h
 obtain⟨c1,I,vs,x,h1,e1,m1,w1,p1⟩:=ho c σ S h
 have hlen:vs.length=cs.length:=by grind
 obtain⟨g1,g2,g3,g4,g5⟩:=h1.1.fix h1.2.1 hb (cs:=vs) (off:=off) (by omega) (fun j v hv=>hc j _ (by grind)) w1
 refine⟨_,_,[.sl I.next 0 len (.exact cap)],x,⟨g1,g2,?_⟩,e1.trans g3,?_,fun v hv => ?_,p1⟩
 ·have s1:Sat (I.new (.cells vs.length vs true)) (.ro I.next (.cells vs.length vs true)::A vs x::S):=(h1.2.2.new _).freeze
  refine s1.two (aJ.ro _ _) (hA _ _) fun m r k1 k2=>⟨_,vs,rfl,⟨some (I.next,len,cap),k1,rfl,by omega⟩,k2⟩
 ·simp[conc,g4]
 ·rw[List.mem_singleton.1 hv]
  exact⟨⟨g5,J4⟩,rfl⟩
def TE (vs:List V)(l:List Nat): aE:=.xs fun v:V=>.an (.pu (vs=[v])) (.cg v l)
theorem aJ.TE (vs:List V)(l:List Nat): aJ (Am.TE vs l):=aJ.xs fun _=>aJ.an (aJ.pu _) (aJ.cg _ _)
theorem L6 {W:World}{v:Value}(h:W.cell? a=some v): ∃b off,a=⟨b,off,none⟩∧∃C e fz,W.heap[b]?=some (.cells C e fz)∧C[off]?=some v:=by
 obtain⟨b,off,spot⟩:=a
 have hs:spot=none:=World.cell?_spot h
 grind[World.cell?]
theorem Ic {β:Type}{f:α→β}{l:List α}{b:β}(h:l.map f=[b]): ∃a,l=[a]∧f a=b:=by
 simp_all
end Go.Proofs.YtdonpgpfplgigaaGreat.Am
namespace Go.Proofs.YtdonpgpfplgigaaGreat.Am
open Go Go.ChangeShapes Go.WideShapes Go.ChangeAt Go.RowKit
variable {a:Addr} {C:Array Value} {c:Ctx} {σ h:H} {S:List aE} {es:List En} {cs:List Value} {b off k fuel B i:Nat} {fz:Nat×Nat} {α H':Type} {e t:TypeId} {w:World}
theorem Wd {H:Type}(d:DataW H): 1≤Rows.uptoBulk d:=by
 cases d with
 |lit l=>cases l<;>simp[Rows.uptoBulk]
 |nil=>simp[Rows.uptoBulk]
 |ptr d=>simp[Rows.uptoBulk]
 |slice elems spare=>simp[Rows.uptoBulk]
 |agg parts=>simp[Rows.uptoBulk]
 |iface t d=>simp[Rows.uptoBulk]
 |map entries=>simp[Rows.uptoBulk]
 |held h=>simp[Rows.uptoBulk]
theorem xI {H:Type}{d:DataW H}: ∀ {l:List (DataW H)},d∈l→Rows.uptoBulk d≤Rows.uptoBulkAll l:=by
 intro l
 induction l<;>grind[Rows.uptoBulkAll]
theorem L7 {H:Type}: ∀(l:List (DataW H)),l.length≤Rows.uptoBulkAll l:=by
 intro l
 induction l<;>grind[Wd,Rows.uptoBulkAll]
theorem GJ {H:Type}(a b:List (DataW H)): Rows.uptoBulk (.slice a b)=Rows.uptoBulkAll a+Rows.uptoBulkAll b+1:=by rfl
theorem We {H:Type}(a:List (DataW H)): Rows.uptoBulk (.agg a)=Rows.uptoBulkAll a+1:=by rfl
theorem OA {W:World}{o:Nat}(I:W.heap[b]?=some (.cells C e fz)): W.cell? ⟨b,o,none⟩=C[o]?:=by
 grind[World.cell?]
section
variable {enc:TypeId×Value→H'} {W:World} {x:DataW H'×List MemPlace}
theorem OB (h:DataW.trod enc Tryz.prog W 0 (fun _=>true) true fuel 29 cs=some x)(hB:Rows.uptoBulk x.1≤B): qF W cs TE (fun l=>l.length≤B):=by
 rcases open_ints aK Tryz.underlying5 (by kernel_rfl) h with⟨rfl,rfl⟩|⟨a,len,cap,zs,rfl,_,NV,_,hz,rfl,I,oN⟩
 ·exact fun c σ S h=>⟨c,σ,[.aR],[],h.sat fun h s=>s.uY.dQ fun m r k=>⟨.aR,rfl,k⟩,Ext.refl c,by rfl,fun v hv=>by rw[List.mem_singleton.1 hv];exact⟨aa,rfl⟩,gu _⟩
 ·rw[ay rfl] at hz
  by_cases h0:cap=0
  ·have:len=0:=by omega
   subst this
   subst h0
   exact fun c σ S h=>⟨c,σ,[.sle a],[],h.sat fun h s=>(s.gQ (φ:=True) aa).dQ fun m r k=>⟨.sle a,rfl,by simp,.inl ⟨.inr ⟨a,rfl⟩,rfl⟩⟩,Ext.refl c,by rfl,fun v hv=>by rw[List.mem_singleton.1 hv];exact⟨aa,rfl⟩,gu _⟩
  ·have g0:=I 0 (by omega)
   obtain⟨b,off,spot⟩:=a
   have hs:spot=none:=by simpa[Addr.add] using World.cell?_spot g0
   subst hs
   have I:∀i,i<zs.length→W.cell? ⟨b,off+i,none⟩=some (.int .u8 (zs.getD i 0)):=fun i hi=>by grind[add_plain]
   obtain⟨b',off',he,C,e,fz,hb,Tt⟩:=L6 (I 0 (by omega))
   simp only[Addr.mk.injEq,and_true] at he
   obtain⟨rfl,rfl⟩:=he
   have hC:∀i,i<zs.length→C[off+i]?=some (.int .u8 (zs.getD i 0)):=fun i hi=>by grind[OA]
   have H_:off<C.size:=by
    grind
   have hu8:∀z∈zs,0≤z∧z<256:=fun z hz=>by
    have:=oN z hz
    simp only[Lit.wf,bQ,jX] at this
    have e1:IntKind.min .u8=0:=rfl
    have e2:IntKind.max .u8=255:=rfl
    omega
   have w_:((zs.take len).map Int.toNat).length=len:=by grind
   have hob:(ofBytes ((zs.take len).map Int.toNat)).length=len:=by rw[dx,w_]
   have aee:∀y∈(zs.take len).map Int.toNat,y<256:=fun y hy=>by
    grind
   intro c σ S h
   have cU:off+(ofBytes ((zs.take len).map Int.toNat)).length≤C.size:=by
    by_cases Ii:len=0
    ·omega
    ·have:=(Array.getElem?_eq_some_iff.1 (hC (len-1) (by omega))).1
     omega
   have aef:∀j v,(ofBytes ((zs.take len).map Int.toNat))[j]?=some v→C[off+j]?=some (conc c v):=fun j v hv=>by
    grind[ofBytes,List.getElem_mem,conc]
   obtain⟨g1,g2,g3,g4,g5⟩:=h.1.fix h.2.1 hb (off:=off) cU aef (fun v hv=>by obtain⟨n,_,rfl⟩:=List.mem_map.1 hv;exact⟨aa,rfl⟩)
   refine⟨_,_,[.sl σ.next 0 len (.exact cap)],(zs.take len).map Int.toNat,⟨g1,g2,?_⟩,g3,?_,fun v hv => ?_,?_⟩
   ·have s1:=(h.2.2.new (.cells (ofBytes ((zs.take len).map Int.toNat)).length (ofBytes ((zs.take len).map Int.toNat)) true)).freeze
    refine s1.dQ fun m r k=>⟨_,rfl,aee,.inr ⟨σ.next,0,.exact cap,_,_,true,by rw[w_],k,rfl,by omega,?_,?_⟩⟩<;>grind
   ·simp[conc,g4]
   ·rw[List.mem_singleton.1 hv]
    exact⟨⟨g5,NV⟩,rfl⟩
   ·rw[GJ] at hB
    have h1:=L7 (lits (H:=H') .u8 (zs.take len))
    grind[lits]
theorem TF {E:List V→α→aE}{A:List V→List α→aE}{φ:α→Prop}(ht:Tryz.prog.underlying t=some (.slice e))(hk:Tryz.prog.cellsOf e=k)(h1:1≤k)
 (hE:∀vs x,aJ (E vs x))(hA:∀l m,aJ (A l m))(Bz:∀m r,(A [] []).p m r)(Fe:∀vs x l m a b,(E vs x).p a b→(A l m).p a b→(A (vs++l) (x::m)).p a b)
 (AS:∀n cs (y:DataW H'×List MemPlace),DataW.trod enc Tryz.prog W 0 (fun _=>true) true n e cs=some y→Rows.uptoBulk y.1≤B→qF W cs E φ)
 (h:DataW.trod enc Tryz.prog W 0 (fun _=>true) true fuel t cs=some x)(hB:Rows.uptoBulk x.1≤B): qF W cs (TD k A) (fun xs=>xs.length≤B∧∀x∈xs,φ x):=by
 rcases DataW.trod_slice ht h with⟨rfl,rfl⟩|⟨a,len,cap,elems,rest,n,_,rfl,rfl,_,NV,_,hlen,Wf,gm,_⟩
 ·grind[qF.aec]
 ·obtain⟨F7,XS⟩:=gm rfl
  rw[hk] at Wf XS
  rw[GJ] at hB
  by_cases h0:cap=0
  ·simp_all[qF.abr]
  ·-- each element's cells
   have each:∀i,i<cap→∃cs,W.cells? 0 (a.add (i*k)) k=some cs:=fun i hi=>by
    by_cases AU:i<len
    ·have h2:=Wf i AU
     rw[aG (by omega)] at h2
     obtain⟨cs,h3,_⟩:=Option.bind_eq_some_iff.1 h2
     exact⟨cs,h3⟩
    ·have h2:=XS (i-len) (by omega)
     rw[aG (by omega),show len+(i-len)=i by omega] at h2
     obtain⟨cs,h3,_⟩:=Option.bind_eq_some_iff.1 h2
     exact⟨cs,h3⟩
   obtain⟨Gv,aeg⟩:=each 0 (by omega)
   obtain⟨_,Ii,Tt⟩:=World.cells?_some aeg
   have g0:=Tt 0 (by omega)
   obtain⟨v0,hv0⟩:∃v,Gv[0]?=some v:=⟨_,aG (by omega)⟩
   rw[hv0] at g0
   obtain⟨b,off,spot⟩:=a
   have hs:spot=none:=by simpa[Addr.add] using World.cell?_spot g0
   subst hs
   simp only[add_plain,nC,eS] at g0
   obtain⟨b',off',he,C,ty,fz,hb,AO⟩:=L6 g0
   simp only[Addr.mk.injEq,and_true] at he
   obtain⟨rfl,rfl⟩:=he
   have H_:off<C.size:=(Array.getElem?_eq_some_iff.1 AO).1
   -- the rows
   have rows:∀i,i<len→∃cs,cs.length=k∧qF W cs E φ∧∀q v,cs[q]?=some v→C[off+i*k+q]?=some v:=fun i hi=>by
    have h2:=Wf i hi
    rw[aG (by omega)] at h2
    obtain⟨cs,h3,h4⟩:=Option.bind_eq_some_iff.1 h2
    obtain⟨_,hl,hc⟩:=World.cells?_some h3
    refine⟨cs,hl,AS n cs _ h4 ?_,fun q v hq => ?_⟩
    ·have:=xI (l:=elems.map (·.1)) (oz (CT (l:=elems) (n:=i) (by omega)))
     omega
    ·have hqk:q<k:=by grind
     have:=hc q hqk
     rw[add_plain,add_plain,OA hb,hq] at this
     exact this
   have build:∀m,m≤len→∃I:List (List Value),I.length=m∧(∀cs∈I,qF W cs E φ)∧I.flatten.length=m*k∧∀j v,I.flatten[j]?=some v→C[off+j]?=some v:=by
    intro m
    induction m with
    |zero=>simp
    |succ m ih =>
     intro hm
     obtain⟨I,i1,i2,i3,i4⟩:=ih (by omega)
     obtain⟨cs,r1,r2,r3⟩:=rows m (by omega)
     refine⟨I++[cs],by simp[i1],fun y hy => ?_,by simp[i3,r1,rj],fun j v hj => ?_⟩
     ·rcases List.mem_append.1 hy with hy|hy<;>grind[List.mem_singleton]
     ·rw[List.flatten_append,List.flatten_singleton] at hj
      by_cases cq:j<m*k
      ·grind
      ·rw[ie (by omega),i3] at hj
       have:=r3 _ v hj
       rwa [show off+m*k+(j-m*k)=off+j by omega] at this
   obtain⟨I,b1,b2,b3,b4⟩:=build len (aI _)
   have cU:off+I.flatten.length≤C.size:=by
    by_cases Ii:len*k=0
    ·omega
    ·obtain⟨v,hv⟩:∃v,I.flatten[len*k-1]?=some v:=⟨_,aG (by omega)⟩
     have:=(Array.getElem?_eq_some_iff.1 (b4 _ v hv)).1
     omega
   have main:=qF.aed (k:=k) (len:=len) (cap:=cap) hb cU b3 NV b4 hA (qF.rows hE hA Bz Fe I b2)
   intro c σ S h
   obtain⟨c1,σ1,vs,x,q1,q2,q3,q4,q5,q6⟩:=main c σ S h
   refine⟨c1,σ1,vs,x,q1,q2,q3,q4,?_,q6⟩
   have:=L7 (elems.map (·.1))
   rw[bX] at this
   omega
end
end Go.Proofs.YtdonpgpfplgigaaGreat.Am
namespace Go.Proofs.YtdonpgpfplgigaaGreat.Am
open Go Go.ChangeShapes Go.WideShapes Go.ChangeAt Go.RowKit
variable {a:Addr} {C:Array Value} {c:Ctx} {σ h:H} {S:List aE} {es:List En} {cs:List Value} {b off k fuel B i:Nat} {fz:Nat×Nat} {α H':Type} {e t:TypeId} {w:World}
noncomputable def OC (P:Program)(t:TypeId): Array Field:=match P.underlying t with
 |some (.struct fs)=>fs
 |_ => #[]
def Ie (fs:Array Field)(i:Nat): Option (TypeId×Nat):=(fs[i]?).map fun f=>(f.type,f.offset)
theorem acF : Tryz.prog.underlying 31=some (.struct (OC Tryz.prog 31)):=by kernel_rfl
theorem XT : Tryz.prog.cellsOf 31=4:=by kernel_rfl
theorem XU : Tryz.prog.cellsOf 3=1:=by kernel_rfl
theorem XV : Tryz.prog.cellsOf 29=1:=by kernel_rfl
theorem acG : (OC Tryz.prog 31).size=4:=by kernel_rfl
theorem acH : Ie (OC Tryz.prog 31) 0=some (3,0):=by kernel_rfl
theorem acI : Ie (OC Tryz.prog 31) 1=some (3,1):=by kernel_rfl
theorem acJ : Ie (OC Tryz.prog 31) 2=some (29,2):=by kernel_rfl
theorem acK : Ie (OC Tryz.prog 31) 3=some (29,3):=by kernel_rfl
theorem DN {fs:Array Field}{o:Nat}(h:Ie fs i=some (t,o)): ∃f,fs[i]?=some f∧f.type=t∧f.offset=o:=by
 grind[Ie]
theorem TG {l:List α}(h:l.length=4): ∃a b c d,l=[a,b,c,d]:=by
 rcases l with _|⟨a,_|⟨b,_|⟨c,_|⟨d,_|⟨e,l⟩⟩⟩⟩⟩<;>simp at h
 exact⟨a,b,c,d,rfl⟩
def TH (vs:List V)(D:zG): aE:=.xs fun k:V=>.xs fun v:V=>.an (.pu (vs=[.int .i64 D.act,.int .i64 D.tree,k,v])) (.an (.cg k D.k) (.cg v D.v))
theorem aJ.TH (vs:List V)(D:zG): aJ (Am.TH vs D):=aJ.xs fun _=>aJ.xs fun _=>aJ.an (aJ.pu _) (aJ.an (aJ.cg _ _) (aJ.cg _ _))
section
variable {enc:TypeId×Value→H'} {W:World} {x:DataW H'×List MemPlace}
theorem Zr (h:DataW.trod enc Tryz.prog W 0 (fun _=>true) true fuel 31 cs=some x)(hB:Rows.uptoBulk x.1≤B): qF W cs TH (fun _=>True):=by
 obtain⟨xs,n,rfl,rfl,hl,hx,hf⟩:=DataW.trod_struct acF h
 rw[XT] at hl
 rw[acG] at hx
 obtain⟨f0,a0,b0,c0⟩:=DN acH
 obtain⟨f1,a1,b1,c1⟩:=DN acI
 obtain⟨f2,a2,b2,c2⟩:=DN acJ
 obtain⟨f3,a3,b3,c3⟩:=DN acK
 have h0:=hf 0 f0 a0
 have h1:=hf 1 f1 a1
 have h2:=hf 2 f2 a2
 have h3:=hf 3 f3 a3
 rw[b0,c0,XU] at h0
 rw[b1,c1,XU] at h1
 rw[b2,c2,XV] at h2
 rw[b3,c3,XV] at h3
 obtain⟨v0,v1,v2,v3,rfl⟩:=TG hl
 obtain⟨y0,y1,I,y3,rfl⟩:=TG hx
 have h0:DataW.trod enc Tryz.prog W 0 (fun _=>true) true n 3 [v0]=some y0:=h0
 have h1:DataW.trod enc Tryz.prog W 0 (fun _=>true) true n 3 [v1]=some y1:=h1
 have h2:DataW.trod enc Tryz.prog W 0 (fun _=>true) true n 29 [v2]=some I:=h2
 have h3:DataW.trod enc Tryz.prog W 0 (fun _=>true) true n 29 [v3]=some y3:=h3
 obtain⟨m0,vP,_,_⟩:=DataW.trod_int cm h0
 injection vP with vP _
 subst vP
 obtain⟨m1,l8,_,_⟩:=DataW.trod_int cm h1
 injection l8 with l8 _
 subst l8
 rw[We] at hB
 have e:([y0,y1,I,y3].map (·.1))=[y0.1,y1.1,I.1,y3.1]:=rfl
 rw[e] at hB
 have hB2:Rows.uptoBulk I.1≤B:=by
  have:=xI (l:=[y0.1,y1.1,I.1,y3.1]) (d:=I.1) (by simp)
  omega
 have hB3:Rows.uptoBulk y3.1≤B:=by
  have:=xI (l:=[y0.1,y1.1,I.1,y3.1]) (d:=y3.1) (by simp)
  omega
 intro c σ S hr
 obtain⟨c1,σ1,vs1,lv,r1,r2,r3,r4,r5⟩:=OB h3 hB3 c σ S hr
 obtain⟨v,rfl,hv⟩:=Ic r3
 obtain⟨c2,σ2,vs2,lk,t1,t2,t3,t4,t5⟩:=OB h2 hB2 c1 σ1 _ r1
 obtain⟨k,rfl,hk⟩:=Ic t3
 obtain⟨q1,q2⟩:=cT t2 v (r4 v (by simp)).1
 refine⟨c2,σ2,[.int .i64 m0,.int .i64 m1,k,v],⟨m0,m1,lk,lv⟩,t1.sat fun h s=>s.two (aJ.TE _ _) (aJ.TE _ _) fun a b k1 k2 => ?_,r2.trans t2,by simp[conc,hk,q1,hv],fun u hu => ?_,aa⟩
 ·obtain⟨k',e1,k1⟩:=k1
  obtain⟨v',e2,k2⟩:=k2
  have e1:[k]=[k']:=e1
  have e2:[v]=[v']:=e2
  injection e1 with e1 _
  injection e2 with e2 _
  subst e1
  subst e2
  exact⟨k,v,rfl,k1,k2⟩
 ·simp only[gj,jY,nE] at hu
  rcases hu with rfl|rfl|rfl|rfl
  ·exact⟨aa,rfl⟩
  ·exact⟨aa,rfl⟩
  ·exact t4 _ (by simp)
  ·exact⟨q2,(r4 _ (by simp)).2⟩
theorem Wg (h:DataW.trod enc Tryz.prog W 0 (fun _=>true) true fuel 22 cs=some x)(I:Rows.uptoBulk x.1≤B): qF W cs (TD 4 qE) (fun xs=>xs.length≤B∧∀y∈xs,True) :=
 TF (E:=TH) Cz XT (by decide) aJ.TH (fun l m=>aJ.qE m l) (fun _ _=>trivial) (fun vs x l m a b h1 h2=>by
  obtain⟨k,v,e,k1,k2⟩:=h1
  have e:vs=[.int .i64 x.act,.int .i64 x.tree,k,v]:=e
  subst e
  exact⟨⟨⟨rfl,rfl⟩,k1,k2⟩,h2⟩) (fun n cs y hy hb=>Zr hy hb) h I
end
noncomputable def Qr : List (Nat×Oc):=[(116,LA),(52,Gs),(32,Lw 32)]
noncomputable def Qs : Nat→Option (List V→H→Option (V×H)):=toldP Qr tN
noncomputable abbrev CW : gE:=⟨Tryz.prog,Qs⟩
theorem Zs : W Qs:=Y7 fun x I=>by
 simp only[Qr,gj,jY,nE] at I
 rcases I with rfl|rfl|rfl<;>exact⟨by decide,by decide,by decide⟩
theorem L8 : iK CW:=Vu fun x I=>by
 simp only[Qr,gj,jY,nE] at I
 rcases I with rfl|rfl|rfl
 ·exact⟨_,Lk,rfl,by decide⟩
 ·exact⟨_,yY,rfl,by decide⟩
 ·exact⟨_,Ll,rfl,by decide⟩
theorem Wh : WT Qs:=⟨⟨⟨Zs,rfl⟩,rfl⟩,rfl⟩
theorem iL.okW {f:FuncId}{args:List V}{h':H}{v:V}(hd:iL CW f args h v h')(I:Rel c h w)(hw:∀x∈args,wf c x): ki Tryz.prog f args c w v h':=by
 obtain⟨N,hN⟩:=hd
 exact(callF_ok (C:=CW) (De Ca L8 N).1 L8 hN I hw).1
theorem Qt {enc:TypeId×Value→H'}{W:World}{x:DataW H'×List MemPlace}{v0:Value}{f:FuncId}(hct:∀ {L:List zG} {cs:List V} {dv:V} {h:H} {S:List aE},L.length≤1048576→Sat h (qO 4 dv cs::qE cs L::S)→Call CW f [dv] h fun v h'=>v=.bool true)
 (h1:DataW.trod enc Tryz.prog W 0 (fun _=>true) true fuel 22 [v0]=some x)(hB1:Rows.uptoBulk x.1≤1048576):
  Calls Tryz.prog f #[v0] W fun e w'=>e=.returned (.bool true)∧W.keptBut w' (fun _=>False)∧W.heap.size≤w'.heap.size∧∀b,b<W.heap.size→w'.heap[b]?=W.heap[b]?:=by
 obtain⟨c0,σ0,h0⟩:=CI.zero W
 obtain⟨c,σ,vs1,da,hr,_,l8,aeh,hL1⟩:=Wg h1 hB1 c0 σ0 [] h0
 obtain⟨av,rfl,NP⟩:=Ic l8
 obtain⟨w9,s⟩:=jv.1 hr.2.2
 obtain⟨cs,s⟩:=jv.1 s
 have s0:=s
 obtain⟨_,_,_,_,hk⟩:=s0.at (k:=0) rfl
 have e:[av]=[w9]:=hk.1
 injection e with e _
 subst e
 have s1:=s.dup (aJ.an (aJ.pu _) (aJ.an (aJ.qO _ _ _) (aJ.qE _ _)))
 have s2:=(s1.dQ (B:=qE cs da) fun _ _ k=>k.2.2).ae [1]
 have s3:Sat σ (qO 4 av cs::qE cs da::[]):=s2.dQ (B:=qO 4 av cs) fun _ _ k=>k.2.1
 obtain⟨v',h',Rc,rfl⟩:=hct hL1.1 s3
 have I:=Rc.okW hr.1 (fun x hx=>by
  rw[List.mem_singleton.1 hx]
  exact(aeh av (by simp)).1)
 unfold ki at I
 have ea:(([av].map (conc c)).toArray) = #[v0]:=by simp[NP]
 rw[ea] at I
 refine Calls.mono I ?_
 rintro e w' ⟨c',rfl,_,_,hs⟩
 obtain⟨k1,k2,k3⟩:=MV hr.2.1 hs
 exact⟨by simp[conc],k1,k2,k3⟩
end Go.Proofs.YtdonpgpfplgigaaGreat.Am
namespace Go.Proofs.YtdonpgpfplgigaaGreat.Am
open Go
variable {a:Addr} {C:Array Value} {c:Ctx} {σ h:H} {S:List aE} {es:List En} {cs:List Value} {b off k fuel B i:Nat} {fz:Nat×Nat} {α H':Type} {e t:TypeId} {w:World}
def AK (es:List En)(i:Nat): Ky:=match es.reverse[i]? with|some e=>e.1|none=>[]
section
variable {e:En}
theorem jc.xG (h:jc [] none es)(he:es[i]?=some e): A6 es e.1 i :=
 ⟨Nat.le_of_lt (List.getElem?_eq_some_iff.1 he).1,fun _ _ I hl=>h.get I he hl,fun j d I hl=>by
  rcases yh hl with q|rfl
  ·exact Std.le_of_lt (h.get he I q)
  ·rw[he] at I;injection I with I;rw[I];exact Std.le_refl _⟩
theorem Wi (h:jc [] none es)(he:es[i]?=some e): og es e.1=some e:=(h.xG he).abh he
theorem rev_at (he:es.reverse[i]?=some e): i<es.length∧es[es.length-1-i]?=some e:=by
 have hi:=(List.getElem?_eq_some_iff.1 he).1
 rw[gh] at hi
 rw[GS hi] at he
 exact⟨hi,he⟩
theorem Wj (h:jc [] none es)(he:es.reverse[i]?=some e): oR es e.1=es.reverse[i+1]?:=by
 obtain⟨hi,hj⟩:=rev_at he
 have I:e.1≠[]:=CL (h.sz e (aM hj)).1
 have h1:=Ji (eL:=[]) (eR:=[]) I (by simp) (by simp) (h.xG hj)
 rw[dG,fe] at h1
 rw[h1,dG]
 by_cases h0:i+1<es.length
 ·rw[GS h0]
  obtain⟨d,hd⟩:∃d,es[es.length-1-(i+1)]?=some d:=⟨_,aG (by omega)⟩
  have h2:=Ox (eL:=[]) hd
  rw[dG,show es.length-1-(i+1)+1=es.length-1-i by omega] at h2
  rw[h2,hd]
 ·rw[nm (by rw[gh];omega),show es.length-1-i=0 by omega]
  rfl
end
theorem abt : ∃i,Tryz.prog.info? 9=some i∧i.size=1∧i.bytes≤4096 :=
 ⟨_,(show Tryz.prog.info? 9=some ((Tryz.prog.info? 9).getD default) by kernel_rfl),by kernel_rfl,pN (by kernel_rfl)⟩
section
variable {told:cE} {a p q r root:Nat} {lw lv:V} {R Z:List Nat} {A:Nat} {P:Int→List Nat}
theorem Sat.Qu {T:List aE}{id:Nat}{v c:V}{cs:List V}{P:Program}(s:Sat h T)(hk:getA T k=some (.arr 1 v cs))(hi:cs[i]?=some c)(hx:indexAddrV P t v (.int .i64 (i:Int))=some (.ptr id off))(hu:P.underlying t=some (.slice e))(rM:bp P e=some 1): ∀t',isAggT P t'=some false→loadV P h t' (.ptr id off)=some c:=by
 obtain⟨sk,H8,I,e2⟩:=jL (P:=P) s hk hi hu rM
 rw[hx] at I
 injection I with I
 injection I with I e3
 subst I e3
 exact e2
theorem Wk {wv:V}{c:List Ky}{k:Ky}(hl:c.length≤1000)(s:Sat h (.arr 1 wv (pY c)::S)): ∃I h1 w h2,buildSliceV Tryz.prog h 57 1 [(0,.str k)]=some (I,h1)∧appendV Tryz.prog h1 #[57,57] wv I=some (w,h2)∧Sat h2 (.arr 1 w (pY (c++[k]))::S):=by
 obtain⟨i1,dy,fy,o8⟩:=abt
 obtain⟨I,h1,e1,s1⟩:=lR (P:=Tryz.prog) (k:=1) (x:=.str k) s zH zt9 sz9 rfl (by decide) (by decide) rfl rfl
 obtain⟨w,h2,e2,s2⟩:=h_ (s1.ae [1,0]) zH dy zt9 fy o8 rfl (by decide) (by rw[pY,bX];simp[V.cells];omega)
 have s2:=s2.del 1
 exact⟨I,h1,w,h2,e1,e2,by rw[pY,qY];exact s2⟩
theorem Wl {l:List Nat}(s:Sat h S)(hl:∀b∈l,b<256): ∃v h',convV Tryz.prog h 9 29 (.str l)=none∧convB Tryz.prog h 9 29 (.str l)=some (v,h')∧Sat h' (.cg v l::S):=by
 refine⟨.sl h.next 0 l.length (.rest 1 0),h.new (.cells l.length (ofBytes l) true),?_,?_,?_⟩
 ·simp only[convV,o7,aK]
 ·simp only[convB,o7,aK,Tryz.underlying5,fB]
  rfl
 ·exact(s.new (.cells l.length (ofBytes l) true)).freeze.dQ fun m r hm=>⟨hl,.inr ⟨h.next,0,.rest 1 0,l.length,ofBytes l,true,rfl,hm,by rw[dx],by omega,by rw[ij,gT (by rw[dx];exact aI _)],rfl⟩⟩
noncomputable def twL : Code:=eu [1,1,1,1,1,1,1,1,1,0,1,0,0] ((Tryz.f6.body).getD .skip)
noncomputable def twC : Code:=eu [1,1,1,1,1,1,1,1,1,1,1,0,1,0,0] ((Tryz.f6.body).getD .skip)
theorem Zt (hT:WT told)(hB:B≤2000)(ht:mP 1024 root R [] Z A P es)(hA:A≤22000)(hlen:es.length≤200): ∀(d i:Nat) (bv kb:V) (ε:bE) (h:H) (E:List (Nat×V)) (Q:Ex→List (Nat×V)→H→Prop),i+d=es.length→EI 1024 B ε→pgA ε=P →
  Sat h (.arr 1 bv (pY ((es.reverse.take i).map (·.1)))::aU kb (AK es i)::.arr 2 lv (dL es)::SA a p q r .b8 [] 0 ε::.arr 1 lw (gB [root])::S)→Has E [(3,.ptr a 0),(4,lw),(6,lv),(14,bv),(15,kb),(17,.bool (decide (i<es.length))),(19,.int .i64 (i:Int))] →
  (∀E' h' bv ε,EI 1024 B ε→pgA ε=P→Sat h' (.arr 1 bv (pY (es.reverse.map (·.1)))::.arr 2 lv (dL es)::SA a p q r .b8 [] 0 ε::.arr 1 lw (gB [root])::S)→Has E' [(3,.ptr a 0),(4,lw),(6,lv),(14,bv)]→Q (.exit 2) E' h')→WP ⟨Tryz.prog,told⟩ 191 (.loop twL) E h Q:=by
 have hW:=hT.w
 have jU:=ht.ok
 intro d
 induction d with
 |zero =>
  intro i bv kb ε h E Q hi cA fO s hE hq
  obtain rfl:i=es.length:=hi
  rw[er (yo _)] at hE
  rw[gT (by rw[gh];exact aI _)] at s
  have GD:=s.fW (P:=Tryz.prog) (j:=2) (n:=es.length) rfl (eV _) (by decide) kz
  refine WP.loop (WP.has hE (zK 5 rfl (zo rfl (aD rfl rfl rfl GD) (zo rfl (ak (r:=.int .i64 ((es.length+1:Nat):Int)) rfl rfl (by rw[show((es.length+1:Nat):Int)=(es.length:Int)+1 by omega];exact aQ (aq (by omega) (by omega)))) ?_))))
  refine zB rfl r9 (decide_eq_true (by omega)) ?_
  exact zk 5 rfl (WP.exit (hq _ _ bv ε cA fO (s.del 1) ⟨rfl,rfl,rfl,rfl,aa⟩))
 |succ d ih =>
  intro i bv kb ε h E Q hi cA fO s hE hq
  obtain⟨e,he⟩:∃e,es.reverse[i]?=some e:=⟨_,aG (by rw[gh];omega)⟩
  have hkb:AK es i=e.1:=by rw[AK,he]
  have fJ:=jU.sz e (by have:=aM he;simpa using this)
  have uK:(es.reverse.take (i+1)).map (·.1)=(es.reverse.take i).map (·.1)++[e.1]:=by rw[qV,he];simp
  rw[dB (show i<es.length by omega)] at hE
  rw[hkb] at s
  have GD:=s.fW (P:=Tryz.prog) (j:=2) (n:=es.length) rfl (eV _) (by decide) kz
  obtain⟨xv,h1,w,h2,e1,e2,s2⟩:=Wk (k:=e.1) (by rw[bX];have:=List.length_take_le i es.reverse;omega) s
  rw[←uK] at s2
  refine WP.loop (WP.has hE (zK 5 rfl (zo rfl (aD rfl rfl rfl GD) (zo rfl (ak (r:=.int .i64 ((es.length+1:Nat):Int)) rfl rfl (by rw[show((es.length+1:Nat):Int)=(es.length:Int)+1 by omega];exact aQ (aq (by omega) (by omega)))) ?_))))
  refine zB rfl r9 (decide_eq_true (by omega)) ?_
  refine zk 7 rfl (WP.block (zK 4 rfl (zo rfl (cL rfl (Cf (s.aC (k:=1) rfl (aZ _ _)))) (au.any rfl rfl rfl (OpR.of (R:=fun v h'=>v=xv∧h'=h1) (ku rfl e1) ⟨rfl,rfl⟩) ?_))))
  rintro xv h1 ⟨rfl,rfl⟩
  refine au.any rfl rfl rfl (OpR.of (R:=fun v h'=>v=w∧h'=h2) (j_ rfl rfl e2) ⟨rfl,rfl⟩) ?_
  rintro w h2 ⟨rfl,rfl⟩
  have s:=s2.ae [3,1,0,0]
  dsimp only[bringA,getA,aL] at s
  obtain⟨id,off,f1,f2⟩:=jL (P:=Tryz.prog) s (k:=4) (i:=0) rfl (mQ (n:=root) rfl) gP nY
  refine zk 5 rfl (zo rfl (mI rfl (mki_of uj rfl)) (zm rfl (zo rfl (bS (r:=.ptr id off) rfl rfl f1) (zl rfl (f2 _ b9) (zm rfl (zc rfl (Jl hT.toWB (EG hW hB) (by decide) cA (by rw[fO];exact ht) hA (aZ _ _) (by omega) s) ?_))))))
  rintro v h ⟨iQ,q1,q2,q3⟩
  obtain⟨I,OD,rfl,s⟩:∃I OD,v=.aT [I,OD,.bool (decide (i+1<es.length)),.int .i64 0]∧Sat h (aU I (AK es (i+1))::SA a p q r .b8 [] 0 iQ::.arr 1 w (pY ((es.reverse.take (i+1)).map (·.1)))::.arr 2 lv (dL es)::.arr 1 lw (gB [root])::S):=by
   rw[Wj jU he] at q3
   by_cases hl:i+1<es.length
   ·obtain⟨d,hd⟩:∃d,es.reverse[i+1]?=some d:=⟨_,aG (by rw[gh];omega)⟩
    rw[hd] at q3
    obtain⟨I,OD,q4,s⟩:=q3
    exact⟨I,OD,by rw[q4,dB hl],by rw[AK,hd];exact s.del 1⟩
   ·have hd:es.reverse[i+1]?=none:=nm (by rw[gh];omega)
    rw[hd] at q3
    obtain⟨q4,s⟩:=q3
    exact⟨.aR,.aR,by rw[q4,er hl],by rw[AK,hd];exact s.t_⟩
  have s:=s.ae [2,0,1,0,0]
  dsimp only[bringA,getA,aL] at s
  refine zk 8 rfl (zv (zg rfl (zm rfl (zh rfl (ak rfl rfl aH) (rfl) (zv (zj rfl (WP.skip (zr rfl (zm rfl (zb rfl (by exact aQ (aq (by omega) (by omega))) ?_))))))))))
  refine za rfl (zv ?_)
  exact ih (i+1) w I iQ _ _ Q (by omega) q1 (by rw[←fO];funext m;exact(EG (a:=a) (p:=p) (q:=q) (r:=r) (op:=.b8) (data:=[]) (aN:=0) hW hB).same q2 m) s ⟨rfl,rfl,rfl,rfl,rfl,rfl,rfl,aa⟩ hq
theorem abu (hT:WT told)(hB:B≤2000)(ht:mP 1024 root R [] Z A P es)(hA:A≤22000)(hlen:es.length≤200)(TC:∀d∈es,∀x∈d.1,x<256): ∀(d i:Nat) (bv:V) (ε:bE) (h:H) (E:List (Nat×V)) (Q:Ex→List (Nat×V)→H→Prop),i+d=es.length→EI 1024 B ε→pgA ε=P →
  Sat h (.arr 1 bv (pY (es.reverse.map (·.1)))::.arr 2 lv (dL es)::SA a p q r .b8 [] 0 ε::.arr 1 lw (gB [root])::S)→Has E [(3,.ptr a 0),(4,lw),(6,lv),(14,bv),(20,.int .i64 (i:Int))] →
  (∀E' h',Q (.exit 4) E' h')→WP ⟨Tryz.prog,told⟩ 191 (.loop twC) E h Q:=by
 have hW:=hT.w
 have jU:=ht.ok
 have ja:(pY (es.reverse.map (·.1))).length=es.length*1:=by simp[pY]
 intro d
 induction d with
 |zero =>
  intro i bv ε h E Q hi cA fO s hE hq
  obtain rfl:i=es.length:=hi
  refine WP.loop (WP.has hE (zK 5 rfl (zo rfl (aD rfl rfl rfl (s.fW (P:=Tryz.prog) (j:=0) (n:=es.length) rfl ja (by decide) zH)) ?_)))
  refine zC rfl aO (by simp) ?_
  exact zk 2 rfl (WP.exit (hq _ _))
 |succ d ih =>
  intro i bv ε h E Q hi cA fO s hE hq
  obtain⟨e,he⟩:∃e,es[i]?=some e:=⟨_,aG (by omega)⟩
  have fJ:=jU.sz e (aM he)
  have QI:(pY (es.reverse.map (·.1)))[es.length-1-i]?=some (.str e.1):=by
   rw[pY,jW,jW,GS (by omega),show es.length-1-(es.length-1-i)=i by omega,he]
   rfl
  have D4:=s.fW (P:=Tryz.prog) (j:=0) (n:=es.length) rfl ja (by decide) zH
  obtain⟨Xq,P6,f1,f2⟩:=jL (P:=Tryz.prog) s (k:=0) (i:=es.length-1-i) rfl QI zH sz9
  obtain⟨sk,I,g1,g2,_,_⟩:=GC (P:=Tryz.prog) kz El he (s.ae [1])
  refine WP.loop (WP.has hE (zK 5 rfl (zo rfl (aD rfl rfl rfl D4) (zB rfl aO (by simp;omega) ?_))))
  refine zk 4 rfl (WP.block (zK 2 rfl (WP.drawn [af,af,af,af,af,af,af,af,af,af,af,af,af,af] rfl (by kernel_rfl) (by kernel_rfl) ?_)))
  refine zM rfl (zM rfl (zO rfl (aD rfl rfl rfl D4) (zO rfl (ak (r:=.int .i64 ((es.length-1:Nat):Int)) rfl rfl (by rw[show((es.length-1:Nat):Int)=(es.length:Int)-1 by omega];exact ew (aq (by omega) (by omega)))) ?_)))
  refine zM rfl (zO rfl (ak (r:=.int .i64 ((es.length-1-i:Nat):Int)) rfl rfl (by rw[show((es.length-1-i:Nat):Int)=((es.length-1:Nat):Int)-(i:Int) by omega];exact ew (aq (by omega) (by omega)))) ?_)
  refine zO rfl (bS (r:=.ptr Xq P6) rfl rfl f1) (zL rfl (f2 _ IE) (zM rfl (zM rfl (zO rfl (bS (r:=.ptr sk I) rfl rfl g1) (zF rfl (BS _ _) (zL rfl (g2 _ IE) (aB.qb rfl rfl rfl rfl (ak rfl rfl Pb) (by simp) ?_)))))))
  refine aB.nil ⟨⟨aa,aa,aa,aa,aa,aa,aa,aa,aa,aa,aa,aa,aa,aa,aa⟩,?_⟩
  refine zK 3 rfl ?_
  obtain⟨xA,sI,w1,w2⟩:=jL (P:=Tryz.prog) s (k:=3) (i:=0) rfl (mQ (n:=root) rfl) gP nY
  obtain⟨yv,h1,y1,y2,s2⟩:=Wl s (TC e (aM he))
  have hlb:=(s.tf (j:=3) rfl).2.2
  have s0:=s
  refine WP.drawn [some (0,2),some (0,2),some (0,2),some (0,2),some (0,2),af,af,af,af,af,af,af,af,af,af,af,af,af,af,af,af] rfl (by kernel_rfl) (by kernel_rfl) ?_
  refine zM rfl (zO rfl (mI rfl (mki_of uj rfl)) (zM rfl (zO rfl (bS (r:=.ptr xA sI) rfl rfl w1) (zL rfl (s.Qu (k:=3) rfl (mQ (n:=root) rfl) w1 gP nY _ b9) (zM rfl (zM rfl (zO rfl (bS (r:=.ptr sk I) rfl rfl g1) (zF rfl (BS _ _) (zL rfl (g2 _ IE) (aB.any rfl rfl rfl (by simp only[isEff,aK]<;>rfl) (OpR.of (R:=fun v h'=>v=yv∧h'=h1) (y7 rfl y1 y2) ⟨rfl,rfl⟩) ?_))))))))))
  rintro yv h ⟨rfl,rfl⟩
  have s1:=s2.ae [1,1,1,1]
  dsimp only[bringA,getA,aL] at s1
  have s:=s2.ae [3,0]
  dsimp only[bringA,getA,aL] at s
  refine aB.any rfl rfl rfl rfl (OpR.call rfl rfl rfl rfl (Tx hT.toWB (EG hW hB) (by decide) cA (by rw[fO];exact ht) hA (bj _ _) (by omega) s)) ?_
  rintro v h ⟨iQ,q1,q2,q3⟩
  rw[Wi jU he] at q3
  obtain⟨xk,xw,rfl,s⟩:=q3
  refine zM rfl (zO rfl (iU rfl rfl) (zO rfl (iU rfl rfl) (zO rfl (iU rfl rfl) (zO rfl (iU rfl rfl) (zA rfl (zA rfl (zA rfl (zA rfl ?_))))))))
  refine aB.nil ⟨⟨fun _ _=>.inr ⟨rfl,⟨_,bV rfl⟩,bg _ rfl⟩,fun _ _=>.inr ⟨rfl,⟨_,mI rfl (mki_of uj rfl)⟩,bg _ rfl⟩,fun _ _=>.inr ⟨rfl,⟨_,bV rfl⟩,hlb⟩,fun _ _=>.inr ⟨rfl,⟨_,bS (r:=.ptr xA sI) rfl rfl w1⟩,bg _ rfl⟩,fV (.inr ⟨rfl,⟨_,o_load rfl (s0.Qu (k:=3) rfl (mQ (n:=root) rfl) w1 gP nY _ b9)⟩,bg _ rfl⟩) (.inr ⟨rfl,⟨_,o_load rfl (s1.Qu (k:=3) rfl (mQ (n:=root) rfl) w1 gP nY _ b9)⟩,bg _ rfl⟩),aa,aa,aa,aa,aa,aa,aa,aa,aa,aa,aa,aa,aa,aa,aa,aa,aa⟩,?_⟩
  obtain⟨Jd,CA,g3,g4,g5,_⟩:=GC (P:=Tryz.prog) kz El he (s.ae [4])
  refine zw (WP.drawn [af,af,af,af,af,af,af,af,af,af,af,af,af,af,af,af,af,af,af,af,af,af,af,af,af,af] rfl (by kernel_rfl) (by kernel_rfl) ?_)
  refine zM rfl (aB.qb rfl rfl rfl rfl (ak rfl rfl aH) (rfl) (zM rfl (zM rfl (zO rfl (dZ rfl rfl) (zO rfl (pT rfl rfl) (zM rfl (zM rfl (aB.op rfl rfl rfl (by simp only[isEff,o7]) (cL rfl (Cf (s.aC (k:=0) rfl (aZ _ _)))) ?_))))))))
  refine zM rfl (zM rfl (zO rfl (bS (r:=.ptr Jd CA) rfl rfl g3) (zF rfl (BS _ _) (zL rfl (g4 _ IE) (aB.qb rfl rfl rfl rfl (ak rfl rfl Pb) (by simp) ?_)))))
  refine zO rfl (pT rfl rfl) (zM rfl (zM rfl (aB.op rfl rfl rfl (by simp only[isEff,o7]) (cL rfl (Cf (s.aC (k:=1) rfl (aZ _ _)))) ?_)))
  refine zM rfl (zM rfl (zO rfl (bS (r:=.ptr Jd CA) rfl rfl g3) (zF rfl (Rx _ _) (zL rfl (g5 _ IE) (aB.qb rfl rfl rfl rfl (ak rfl rfl Pb) (by simp) ?_)))))
  refine zO rfl (pT rfl rfl) ?_
  refine aB.nil ⟨⟨aa,aa,aa,aa,aa,aa,aa,aa,aa,aa,aa,aa,aa,aa,aa,aa,aa,aa,aa,aa,aa,aa,aa,aa,aa,aa,aa⟩,?_⟩
  refine zj rfl (WP.skip (zr rfl (zm rfl (zb rfl (by exact aQ (aq (by omega) (by omega))) ?_))))
  refine za rfl (zv ?_)
  exact ih (i+1) bv iQ _ _ Q (by omega) q1 (by rw[←fO];funext m;exact(EG (a:=a) (p:=p) (q:=q) (r:=r) (op:=.b8) (data:=[]) (aN:=0) hW hB).same q2 m) (((s.ae [3,3,2,2]).del 5).del 4) ⟨rfl,rfl,rfl,rfl,rfl,aa⟩ hq
end
section
variable {told:cE} {dv:V} {cs:List V} {L:List zG}
theorem Wm (hT:WT told)(hL:L.length≤1048576)(s:Sat h (qO 4 dv cs::qE cs L::S)):
  Call ⟨Tryz.prog,told⟩ 6 [dv] h fun v h'=>v=.bool true:=by
 have hW:=hT.w
 have gy:cs.length=L.length*4:=by
  obtain⟨m,r,_,_,h3⟩:=s.at (k:=1) rfl
  exact Ib h3
 refine Call.of_wp (hW.free _ rfl) Tryz.func6 rfl rfl (zK 7 rfl (zc rfl (Qq hT s) ?_))
 rintro v h ⟨rfl,s⟩
 refine zo rfl (dZ rfl rfl) (zk 7 rfl (zo rfl (aD rfl rfl rfl (s.K4 (n:=L.length) (j:=0) rfl gy (by decide) Cz)) ?_))
 by_cases hl:L.length>200
 ·skip
  refine zB rfl cV (decide_eq_true (by omega)) ?_
  refine zk 6 rfl (WP.ret ⟨aa,_,rfl,?_⟩)
  rfl
 refine zC rfl cV (decide_eq_false (by omega)) ?_
 refine zk 5 rfl (zc rfl (Jk (N:=1024) (nt:=1) hT (by decide) (by decide) (by decide) s) ?_)
 rintro v h ⟨p,a,q,r,lw,rs,M,ε,rfl,F7,cA,gm,wH,fO,s⟩
 obtain⟨root,rfl⟩:∃z,rs=[z]:=List.length_eq_one_iff.1 F7
 generalize List.replicate 64 0=R at gm
 have ht:mP 1024 root R [] [] 486 (pgA ε) []:=mP.fresh gm wH (fO root bB)
 have s:=(s.ae [1]).mJ (k:=2)
 refine zk 12 rfl (zo rfl (dZ rfl rfl) (zk 12 rfl (WP.block ?_)))
 refine aeb hT (by omega) L.length 0 .aR [] ε _ _ _ (by omega) ⟨cA,⟨[],486,by simp,by omega,ht⟩,by simp,by simp⟩ s ⟨rfl,rfl,rfl,rfl,rfl,aa⟩ (fun E' h' hE=>⟨aa,_,z_ hE,rfl⟩) (fun lv es ε E' h' hI s' hE => ?_)
 obtain⟨sH,⟨Z,A,hZ,hA,I⟩,TC,hlen⟩:=hI
 have jU:=I.ok
 have s:=s'.mJ (k:=1)
 have s:=s.t_.ae [3,0,0,0,0]
 obtain⟨id,off,e1,e2⟩:=jL (P:=Tryz.prog) s (k:=4) (i:=0) rfl (mQ (n:=root) rfl) gP nY
 refine WP.has hE (zK 7 rfl (zo rfl (mI rfl (mki_of uj rfl)) (zm rfl (zo rfl (bS (r:=.ptr id off) rfl rfl e1) (zl rfl (e2 _ b9) (zc rfl (Jl hT.toWB (EG hW (by omega)) (by decide) sH I (by omega) (aZ _ _) (by decide) s) ?_))))))
 rintro v h ⟨kC,k1,k2,k3⟩
 have aei:pgA kC=pgA ε:=by funext m;exact(EG (a:=a) (p:=p) (q:=q) (r:=r) (op:=.b8) (data:=[]) (aN:=0) hW (B:=5+2*L.length) (by omega)).same k2 m
 have Tu:oR es []=es.reverse[0]?:=by rw[Jh,←List.head?_reverse,List.head?_eq_getElem?]
 obtain⟨kb,vb,rfl,s⟩:∃kb vb,v=.aT [kb,vb,.bool (decide (0<es.length)),.int .i64 0]∧Sat h (aU kb (AK es 0)::SA a p q r .b8 [] 0 kC::.arr 1 .aR []::.arr 2 lv (dL es)::.arr 1 lw (gB [root])::qO 4 dv cs::qE cs L::S):=by
  rw[Tu] at k3
  by_cases h0:0<es.length
  ·obtain⟨d,hd⟩:∃d,es.reverse[0]?=some d:=⟨_,aG (by rw[gh];omega)⟩
   rw[hd] at k3
   obtain⟨kb',OD,q4,s⟩:=k3
   exact⟨kb',OD,by rw[q4,dB h0],by rw[AK,hd];exact s.del 1⟩
  ·have hd:es.reverse[0]?=none:=nm (by rw[gh];omega)
   rw[hd] at k3
   obtain⟨q4,s⟩:=k3
   exact⟨.aR,.aR,by rw[q4,er h0],by rw[AK,hd];exact s.t_⟩
 have s:=s.ae [2,0,1,0,0]
 refine zk 15 rfl (WP.block (Zt hT (by omega) I (by omega) (by omega) es.length 0 .aR kb kC _ _ _ (by omega) k1 aei s ⟨rfl,rfl,rfl,rfl,rfl,rfl,rfl,aa⟩ fun E' h' bv qB q1 q2 s' hE => ?_))
 have s:=s'
 refine WP.has hE (zK 4 rfl (zo rfl (aD rfl rfl rfl (s.fW (P:=Tryz.prog) (j:=0) (n:=es.length) rfl (by simp[pY]) (by decide) zH)) ?_))
 refine zm rfl (zo rfl (aD rfl rfl rfl (s.fW (P:=Tryz.prog) (j:=1) (n:=es.length) rfl (eV _) (by decide) kz)) ?_)
 refine zC rfl aH (by simp) ?_
 refine zk 8 rfl (WP.block (abu hT (by omega) I (by omega) (by omega) TC es.length 0 bv qB _ _ _ (by omega) q1 q2 s ⟨rfl,rfl,rfl,rfl,rfl,aa⟩ fun E' h' => ?_))
 refine zK 4 rfl (WP.ret ⟨aa,_,rfl,?_⟩)
 rfl
end
end Go.Proofs.YtdonpgpfplgigaaGreat.Am
namespace Go.Proofs.YtdonpgpfplgigaaGreat.TreeWalk
open Go.ChangeShapes Go.WideShapes Go.ChangeAt Go.RowKit
theorem own : ownKnob Tryz.prog.godebug=none:=by kernel_rfl
theorem laid : laidOutB Tryz.prog=true:=by kernel_rfl
theorem abv : Tryz.prog.readableRec 22=true:=by kernel_rfl
theorem row : (22:TypeId)<Tryz.prog.types.size:=of_decide_eq_true (by kernel_rfl)
set_option maxRecDepth 100000 in
theorem Wn (H:Type)(enc:TypeId×Value→H)(W:World)(base:Nat)(args:Array Value)(ds gs:List (DataW H))(before:List MemPlace)
 (Bv:∀(j:Nat) t v,Tryz.f6.params[j]?=some t→args[j]?=some v→Value.okWide Tryz.prog W .any base t v)
 (hW:DataW.Whole enc Tryz.prog Tryz.f6.params.toList Rows.treeWalkSpec.vars false W args.toList ds gs before)(hk:Rows.uptoBulkAll (ds++gs)≤1048576):
  Calls Tryz.prog 6 args W fun e W'=>∃v,e=.returned v∧Rows.treeWalkSpec.post enc Tryz.prog Tryz.f6 false true false false W args v W':=by
 have hW':=hW
 obtain⟨p,q,Tb,hV,rfl,tU,iS⟩:=hW
 have hA:DataW.TrodAll enc Tryz.prog W 0 (fun _=>true) true Tryz.f6.params.toList args.toList ds p:=Tb
 rw[Tryz.params6] at hA Bv
 obtain⟨v0,vs0,d0,ds0,p0,q0,JE,rfl,rfl,h0,r0⟩:=trodAll_cons hA
 obtain⟨rfl,rfl,rfl⟩:=trodAll_nil r0
 obtain rfl:args = #[v0]:=by cases args;simp_all
 obtain⟨rfl,rfl⟩:=trodVars_none hV
 obtain⟨fuel,h0⟩:=h0
 have rT:v0.cells.toList=[v0]:=by
  have:=Bv 0 22 v0 rfl rfl
  simp only[Value.okWide,Tryz.underlying22,Cell.okWide,Cell.ok] at this
  split at this<;>first|rfl|exact this.elim
 have h0':=h0
 rw[rT] at h0
 have hb:Rows.uptoBulk d0≤1048576:=by
  have:=Am.xI (l:=([d0]++([]:List (DataW H)))) (d:=d0) (by simp)
  exact Nat.le_trans this hk
 refine(Am.Qt (fun hl s=>Am.Wm Am.Wh hl s) h0 hb).mono fun e W' ⟨he,hg,hs,I⟩ => ?_
 subst he
 have cq:∀x∈p0,x.block<W.heap.size:=fun x hx=>hW'.lt x (by simp[hx])
 have uV:DataW.trod enc Tryz.prog W' 0 (fun b=>decide (b<W.heap.size)) true fuel 22 v0.cells.toList=some (d0,p0) :=
  DataW.trod_stays (kids_book laid abv) (book_sized abv) (fun h=>by cases h) ⟨row,book_self _⟩ h0' (fun x hx=>by
   have hl:=cq x hx
   cases x with
   |cell b off =>
    show W'.cell? ⟨b,off,none⟩=W.cell? ⟨b,off,none⟩
    unfold World.cell?
    rw[I b hl]
   |map b=>exact I b hl) (fun x hx=>by simpa using cq x hx)
 exact⟨_,rfl,⟨_,[],_,[],_,[],hW',trodAll_cons_mk (shut_bool Tryz.underlying4 _) trodAll_mk0,trodAll_cons_mk ⟨fuel,uV⟩ trodAll_mk0,rfl,World.keptBut_mono (fun _ f=>f.elim) hg,fun h=>by cases h⟩⟩
set_option maxRecDepth 100000 in
theorem lifted (os:Os)(started:os.Started)(H:Type)(enc:TypeId×Value→H)(F:Stop.Interp):
  ReturnsInHanded {} Tryz.checked os 6 .any ((Rows.OpenSpec.upto Rows.treeWalkSpec).pre6 enc Tryz.prog Tryz.f6 Rows.treeWalkUptoRow.domain false) (((Rows.OpenSpec.upto Rows.treeWalkSpec).at F).post enc Tryz.prog Tryz.f6 false true false false):=by
 refine returnsInHanded_of_cond (C:=Tryz.checked) (s:=Rows.OpenSpec.upto Rows.treeWalkSpec) (k:=Rows.uptoSmall) rfl own started (by kernel_rfl) Tryz.func6
  (OpenSpec.witness (enc:=enc) (C:=Tryz.checked) (s:=Rows.OpenSpec.upto Rows.treeWalkSpec) (k:=Rows.uptoSmall) rfl false ⟨#[], #[.slice none 0 0],[]⟩ 8 (by kernel_rfl) (by kernel_rfl) (by kernel_rfl)
   (x:=([.nil],[],[])) (by kernel_rfl) rfl (by kernel_rfl)) ?_
 intro W base args ds gs before I hW _ hk _
 exact Wn H enc W base args ds gs before I hW (of_decide_eq_true hk)
theorem cG : Rows.treeWalkUptoRow.holds Tryz.pinned (Rows.OpenSpec.upto Rows.treeWalkSpec) :=
 OpenClaim.holds_of_cond 6 Tryz.f6 rfl rfl rfl rfl rfl rfl rfl ⟨rfl,rfl,rfl,rfl,rfl⟩ rfl rfl rfl rfl rfl (by kernel_rfl) Tryz.func6 (by kernel_rfl)
  (of_decide_eq_true (by kernel_rfl)) (by unfold Func.isWrapper;first|(rw[if_pos (by decide +kernel)];kernel_rfl)|(rw[if_neg (by decide +kernel)];exact⟨rfl,rfl⟩))
  (fun os started H enc _ F=>lifted os started H enc F)
theorem proved : Rows.TreeWalkUptoSaid :=
 cG
#print axioms proved
end Go.Proofs.YtdonpgpfplgigaaGreat.TreeWalk
