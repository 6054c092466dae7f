/- AtomSame: checkpoints, writing out and frames change nothing of what is read, also after a crash; conditions: the statement's. -/
import Derived.Test.YtconhghphklfjaaGreatS24
import Derived.Test.YtconhghphklfjaaGreatS35
import Derived.WalkKit
import Derived.ProofKit
import Derived.OpenShut
import Derived.ChangeSlices
import Derived.Test.YtconhghphklfjaaGreatRows
import Derived.Test.YtconhghphklfjaaGreatS40
import Derived.JoinedCond
import Derived.ChangeBook
import Derived.ChangeStays
namespace Go.Proofs.YtconhghphklfjaaGreat.Am
open Go
set_option maxRecDepth 10000000 in
set_option maxHeartbeats 0 in
theorem Mc : isTrue (run CB 100000 11 [] ⟨0,.lf⟩)=true:=by kernel_rfl
noncomputable def toldAw : List V→H→Option (V×H)
 | [],h=>some (.bool true,h)
 | _,_=>none
theorem Rel.grown {c:Ctx}{σ:H}{w w':World}(h:Rel c σ w)(hs:w.heap.size≤w'.heap.size)(J:∀b,b<w.heap.size→w'.heap[b]?=w.heap[b]?)(ho:w'.os=w.os∧w'.output=w.output): Rel c σ w'∧dD c w c w':=by
 have rows:∀b,b<w.heap.size→rowSize w' b=rowSize w b:=fun b I=>by unfold rowSize; rw [J b I]
 refine ⟨⟨h.next,h.live,fun id hi=>gu (h.kB id hi) hs,fun id hi=>by rw [rows _ (h.kB id hi)]; exact h.zz id hi,h.inj,
  fun id o ho=>(h.obj id o ho).later (Ext.refl c) (h.live id o ho) (J _ (h.kB id (h.live id o ho))),h.one,h.fx⟩,
  ⟨Ext.refl c,hs,rows,fun b I _=>J b I,fun id U h2=>by omega,ho⟩⟩
theorem OV : DG Tryz.prog 11 toldAw:=by
 refine .inl ⟨⟨_,Tryz.func11,rfl,by decide⟩,fun args σ v iA J c w h hw => ?_⟩
 unfold toldAw at J
 split at J
 ·simp only [au,aN] at J
  obtain ⟨rfl,rfl⟩:=J
  have I:=Mc
  cases U:run CB 100000 11 [] ⟨0,.lf⟩ with
  | none=>rw [U] at I; cases I
  | some x =>
   obtain ⟨v,h'⟩:=x
   rw [U] at I
   have hv:v=.bool true:=by
    unfold isTrue at I
    split at I
    ·rename_i he; simp only [au,aN] at he; exact he.1
    ·cases I
   subst hv
   have:=B1 (C:=CB) gY fu U (Rel.empty w) (fun x hx=>by cases hx)
   unfold fO at this ⊢
   refine Calls.mono this ?_
   rintro e w' ⟨c',rfl,_,_,hs⟩
   obtain ⟨g1,g2⟩:=h.grown hs.size (fun b hb=>hs.cS b hb fun id xG=>absurd xG (zV _)) hs.sys
   exact ⟨c,rfl,aa,g1,g2⟩
 ·cases J
noncomputable def C5 (f:Nat): Option (List V→H→Option (V×H)) :=
 cond (Nat.beq f 11) (some toldAw) (cond (Nat.beq f 75) (some (nq Tryz.prog 75 D9))
  (cond (Nat.beq f 76) (some (nq Tryz.prog 76 Hi)) (CH f)))
noncomputable abbrev CL : dw:=⟨Tryz.prog,C5⟩
theorem Q5 : W3 C5:=by
 refine ⟨⟨⟨fun f I => ?_,rfl,rfl⟩,rfl,rfl⟩,toldAw,rfl,fun _=>rfl⟩
 have J:f≠11:=fun e=>by subst e; revert I; decide
 have U:f≠75:=fun e=>by subst e; revert I; decide
 have h3:f≠76:=fun e=>by subst e; revert I; decide
 simp only [C5,cN J,cN U,cN h3,az]
 exact W.base.free f I
theorem Q6 : gT CL:=by
 intro f g I
 simp only [CL,C5] at I ⊢
 by_cases J:f=11
 ·subst J
  rw [gR rfl,ah] at I
  simp only [au] at I
  subst I
  exact OV
 ·rw [cN J,az] at I
  by_cases U:f=75
  ·subst U
   rw [gR rfl,ah] at I
   simp only [au] at I
   subst I
   exact yU ⟨_,yR,rfl,by decide⟩
  ·rw [cN U,az] at I
   by_cases h3:f=76
   ·subst h3
    rw [gR rfl,ah] at I
    simp only [au] at I
    subst I
    exact yU ⟨_,Hh,rfl,by decide⟩
   ·rw [cN h3,az] at I
    exact fu f g I
def Il (c:Ctx): Prop:=∀id,id<c.N→c.X id=true
noncomputable def Ctx.fix (c:Ctx)(w:World)(b off:Nat): Ctx:=⟨fun i=>if i=c.N then (b,off) else c.ρ i,fun x=>if x=b then rowSize w b else c.Z x,c.N+1,fun i=>if i=c.N then true else c.X i⟩
theorem Rel.fix {c:Ctx}{σ:H}{w:World}(h:Rel c σ w)(hX:Il c){b off:Nat}{cs:List V}{C:Array Value}{e:TypeId}{fz:Nat×Nat}(hb:w.heap[b]?=some (.cells C e fz))(hl:off+cs.length≤C.size)
 (hc:∀j v,cs[j]?=some v→C[off+j]?=some (conc c v))(mL:∀v∈cs,wf c v∧storable v=true):
  Rel (c.fix w b off) (σ.new (.cells cs.length cs true)) w∧Il (c.fix w b off)∧Ext c (c.fix w b off)∧(c.fix w b off).ρ σ.next=(b,off)∧σ.next<(c.fix w b off).N:=by
 have hold:∀i,i<c.N→(c.fix w b off).ρ i=c.ρ i:=fun i hi=>by simp [Ctx.fix,i_ hi]
 have Ww:∀i,i<c.N→(c.fix w b off).X i=c.X i:=fun i hi=>by simp [Ctx.fix,i_ hi]
 have I:(c.fix w b off).ρ c.N=(b,off):=by simp [Ctx.fix]
 have hnX:(c.fix w b off).X c.N=true:=by simp [Ctx.fix]
 have hN:(c.fix w b off).N=c.N+1:=rfl
 have bX:b<w.heap.size:=(Array.getElem?_eq_some_iff.1 hb).1
 have U:Il (c.fix w b off):=fun i hi=>by
  by_cases J:i=c.N
  ·rw [J]; exact hnX
  ·rw [Ww i (by rw [hN] at hi; omega)]; exact hX i (by rw [hN] at hi; omega)
 have ex:Ext c (c.fix w b off):=⟨by rw [hN]; omega,hold,fun i hi=>by
  show (if (c.ρ i).1=b then rowSize w b else c.Z (c.ρ i).1)=_
  split
  ·rename_i he; rw [h.zz i hi,he]
  ·rfl,Ww⟩
 have key:∀i o,(σ.new (.cells cs.length cs true)).tr.get i=some o→(i=c.N∧o=.cells cs.length cs true)∨(i<c.N∧σ.tr.get i=some o):=by
  intro i o hi
  rw [fP,h.next] at hi
  by_cases J:i=c.N
  ·simp [J] at hi; exact .inl ⟨J,hi.symm⟩
  ·simp [J] at hi; exact .inr ⟨h.live i o hi,hi⟩
 refine ⟨⟨by simp [H.new,h.next,hN],fun i o hi => ?_,fun i hi => ?_,fun i hi => ?_,fun i j o o' hi hj he => ?_,fun i o hi => ?_,fun i si m9 hi hx => ?_,fun i o hi hx => ?_⟩,U,ex,by rw [h.next]; exact I,by rw [h.next,hN]; omega⟩
 ·rw [hN]; rcases key i o hi with ⟨J,_⟩ | ⟨J,_⟩ <;> omega
 ·rw [hN] at hi
  by_cases J:i=c.N
  ·rw [J,I]; exact bX
  ·rw [hold i (by omega)]; exact h.kB i (by omega)
 ·rw [hN] at hi
  by_cases J:i=c.N
  ·rw [J,I]; show (if b=b then rowSize w b else c.Z b)=_; rw [aj rfl]
  ·rw [hold i (by omega)]
   show (if (c.ρ i).1=b then rowSize w b else c.Z (c.ρ i).1)=_
   split
   ·rename_i he; rw [he]
   ·exact h.zz i (by omega)
 ·have li:i<c.N+1:=by rcases key i o hi with ⟨J,_⟩ | ⟨J,_⟩ <;> omega
  have lj:j<c.N+1:=by rcases key j o' hj with ⟨J,_⟩ | ⟨J,_⟩ <;> omega
  exact .inr ⟨U i (by rw [hN]; exact li),U j (by rw [hN]; exact lj)⟩
 ·rcases key i o hi with ⟨rfl,rfl⟩ | ⟨a1,a2⟩
  ·refine ⟨rfl,fun v hv=>⟨(cE ex v (mL v hv).1).2,(mL v hv).2⟩,C,e,fz,by rw [I]; exact hb,by rw [I]; exact hl,fun j v hj => ?_,aa⟩
   rw [I,(cE ex v (mL v (bq hj)).1).1]
   exact hc j v hj
  ·exact (h.obj i o a2).later ex a1 rfl
 ·have li:i<c.N+1:=by rcases key i _ hi with ⟨J,_⟩ | ⟨J,_⟩ <;> omega
  rw [U i (by rw [hN]; exact li)] at hx; cases hx
 ·rcases key i o hi with ⟨_,rfl⟩ | ⟨a1,a2⟩
  ·exact ⟨_,_,rfl⟩
  ·rw [Ww i a1] at hx; exact h.fx i o a2 hx
theorem Js {c U:Ctx}{w w':World}(hX:Il c)(h:dD c w U w'): w.keptBut w' (fun _=>False)∧w.heap.size≤w'.heap.size∧∀b,b<w.heap.size→w'.heap[b]?=w.heap[b]?:=by
 have J:∀b,b<w.heap.size→w'.heap[b]?=w.heap[b]?:=fun b hb=>h.cS b hb fun id I _=>hX id I
 refine ⟨⟨h.sys.1,h.sys.2,fun i hi => ?_⟩,h.size,J⟩
 rw [J i hi]
 split <;> simp_all
end Go.Proofs.YtconhghphklfjaaGreat.Am
namespace Go.Proofs.YtconhghphklfjaaGreat.Am
open Go Go.ChangeShapes
def zJ (W:World)(S:List ax)(c:Ctx)(σ:H): Prop:=Rel c σ W∧Il c∧Sat σ S
theorem zJ.zero (W:World): ∃c σ,zJ W [] c σ:=by
 refine ⟨_,_,Rel.empty W,fun id h=>absurd h (zV _),⟨fun id o h=>by simp [T.jS] at h,fun _=>none,fun _=>none,fun _ _ h=>(by cases h),fun _ _ h=>(by cases h),fun _=>.inl rfl,aa⟩⟩
theorem zJ.sat {W:World}{S S':List ax}{c:Ctx}{σ:H}(h:zJ W S c σ)(hs:∀h,Sat h S→Sat h S'): zJ W S' c σ:=⟨h.1,h.2.1,hs σ h.2.2⟩
def nB {α:Type}(W:World)(cs:List Value)(E:List V→α→ax)(φ:α→Prop): Prop :=
 ∀(c:Ctx) (σ:H) (S:List ax),zJ W S c σ→∃(I:Ctx) (J:H) (vs:List V) (x:α),zJ W (E vs x::S) I J∧Ext c I∧vs.map (conc I)=cs∧(∀v∈vs,wf I v∧storable v=true)∧φ x
theorem nB.rows {W:World}{α:Type}{E:List V→α→ax}{A:List V→List α→ax}{φ:α→Prop}(hE:∀vs x,aE (E vs x))(hA:∀l m,aE (A l m))(wC:∀m r,(A [] []).p m r)(U:∀vs x l m a b,(E vs x).p a b→(A l m).p a b→(A (vs++l) (x::m)).p a b):
  ∀(I:List (List Value)),(∀cs∈I,nB W cs E φ)→nB W I.flatten A (fun xs=>xs.length=I.length∧∀x∈xs,φ x):=by
 intro I
 induction I with
 | nil =>
  intro _ c σ S h
  exact ⟨c,σ,[],[],h.sat fun h s=>(s.gx (φ:=True) aa).ga fun m r _=>wC m r,Ext.refl c,rfl,fun v J=>(by cases J),rfl,fun x hx=>(by cases hx)⟩
 | cons cs I ih =>
  intro hc c σ S h
  obtain ⟨c1,T1,l,m,h1,e1,m1,w1,n1,p1⟩:=ih (fun x hx=>hc x (bl _ hx)) c σ S h
  obtain ⟨c2,σ2,vs,x,h2,e2,m2,w2,p2⟩:=hc cs bp c1 T1 _ h1
  obtain ⟨q1,q2⟩:=FZ e2 fun v J=>(w1 v J).1
  refine ⟨c2,σ2,vs++l,x::m,h2.sat fun h s=>s.two (hE _ _) (hA _ _) fun a b k1 k2=>U _ _ _ _ _ _ k1 k2,e1.trans e2,?_,fun v J => ?_,by simp [n1],fun y hy => ?_⟩
  ·rw [zW,m2,q1,m1,List.flatten_cons]
  ·rcases List.mem_append.1 J with J | J
   ·exact w2 v J
   ·exact ⟨q2 v J,(w1 v J).2⟩
  ·rcases List.mem_cons.1 hy with rfl | hy
   ·exact p2
   ·exact p1 y hy
def C6 {α:Type}(k:Nat)(A:List V→List α→ax)(vs:List V)(x:List α): ax:=.xs fun v:V=>.xs fun cs:List V=>.an (.pu (vs=[v])) (.an (j7 k v cs) (A cs x))
theorem aE.C6 {α:Type}{k:Nat}{A:List V→List α→ax}(I:∀l m,aE (A l m))(vs:List V)(x:List α): aE (Am.C6 k A vs x):=aE.xs fun _=>aE.xs fun _=>aE.an (aE.pu _) (aE.an (aE.j7 _ _ _) (I _ _))
theorem nB.aan {W:World}{α:Type}{k:Nat}{A:List V→List α→ax}{φ:List α→Prop}(I:∀m r,(A [] []).p m r)(J:φ []): nB W [.slice none 0 0] (C6 k A) φ:=fun c σ S h =>
 ⟨c,σ,[.bA],[],h.sat fun h s=>(s.gx (φ:=True) aa).ga fun m r _=>⟨.bA,[],rfl,⟨none,.inl rfl,rfl⟩,I m r⟩,Ext.refl c,by simp [conc],fun v U=>by rw [List.mem_singleton.1 U]; exact ⟨aa,rfl⟩,J⟩
theorem nB.Wx {W:World}{α:Type}{k:Nat}{A:List V→List α→ax}{φ:List α→Prop}{a:Addr}(I:∀m r,(A [] []).p m r)(J:φ []): nB W [.slice (some a) 0 0] (C6 k A) φ:=fun c σ S h =>
 ⟨c,σ,[.sle a],[],h.sat fun h s=>(s.gx (φ:=True) aa).ga fun m r _=>⟨.sle a,[],rfl,⟨none,.inr ⟨a,rfl⟩,rfl⟩,I m r⟩,Ext.refl c,by simp [conc],fun v U=>by rw [List.mem_singleton.1 U]; exact ⟨aa,rfl⟩,J⟩
theorem nB.aao {W:World}{α:Type}{k b off len cap:Nat}{A:List V→List α→ax}{φ:List α→Prop}{cs:List Value}{C:Array Value}{e:TypeId}{fz:Nat×Nat}(hb:W.heap[b]?=some (.cells C e fz))(hl:off+cs.length≤C.size)(hn:cs.length=len*k)(J:len≤cap)
 (hc:∀j v,cs[j]?=some v→C[off+j]?=some v)(hA:∀l m,aE (A l m))(ho:nB W cs A φ): nB W [.slice (some ⟨b,off,none⟩) len cap] (C6 k A) φ:=by
 intro c σ S h
 obtain ⟨c1,I,vs,x,U,e1,m1,w1,p1⟩:=ho c σ S h
 have hlen:vs.length=cs.length:=by rw [←m1,d_]
 obtain ⟨g1,g2,g3,g4,g5⟩:=U.1.fix U.2.1 hb (cs:=vs) (off:=off) (by omega) (fun j v hv=>hc j _ (by rw [←m1,oV,hv]; rfl)) w1
 refine ⟨_,_,[.sl I.next 0 len (.exact cap)],x,⟨g1,g2,?_⟩,e1.trans g3,?_,fun v hv => ?_,p1⟩
 ·have s1:Sat (I.new (.cells vs.length vs true)) (.ro I.next (.cells vs.length vs true)::A vs x::S):=(U.2.2.new _).freeze
  refine s1.two (aE.ro _ _) (hA _ _) fun m r k1 k2=>⟨_,vs,rfl,⟨some (I.next,len,cap),k1,rfl,by rw [hlen,hn]⟩,k2⟩
 ·simp [conc,g4]
 ·rw [List.mem_singleton.1 hv]
  exact ⟨⟨g5,J⟩,rfl⟩
def Sk (vs:List V)(l:List Nat): ax:=.xs fun v:V=>.an (.pu (vs=[v])) (.ct v l)
theorem aE.Sk (vs:List V)(l:List Nat): aE (Am.Sk vs l):=aE.xs fun _=>aE.an (aE.pu _) (aE.ct _ _)
theorem Im {W:World}{a:Addr}{v:Value}(h:W.cell? a=some v): ∃b off,a=⟨b,off,none⟩∧∃C e I,W.heap[b]?=some (.cells C e I)∧C[off]?=some v:=by
 obtain ⟨b,off,spot⟩:=a
 have hs:spot=none:=World.cell?_spot h
 subst hs
 refine ⟨b,off,rfl,?_⟩
 unfold World.cell? at h
 split at h
 ·rename_i C e I J
  exact ⟨C,e,I,J,by simpa using h⟩
 ·cases h
end Go.Proofs.YtconhghphklfjaaGreat.Am
namespace Go.Proofs.YtconhghphklfjaaGreat.Am
open Go Go.ChangeShapes Go.WideShapes Go.ChangeAt Go.RowKit
theorem Q7 {H:Type}(d:DataW H): 1≤Rows.uptoBulk d:=by
 cases d with
 | lit l=>cases l <;> simp [Rows.uptoBulk]
 | nil=>simp [Rows.uptoBulk]
 | ptr d=>simp [Rows.uptoBulk]
 | slice elems spare=>simp [Rows.uptoBulk]
 | agg parts=>simp [Rows.uptoBulk]
 | iface t d=>simp [Rows.uptoBulk]
 | map entries=>simp [Rows.uptoBulk]
 | held h=>simp [Rows.uptoBulk]
theorem r7 {H:Type}{d:DataW H}: ∀ {l:List (DataW H)},d∈l→Rows.uptoBulk d≤Rows.uptoBulkAll l:=by
 intro l
 induction l with
 | nil=>intro h; cases h
 | cons x r I =>
  intro h
  simp only [Rows.uptoBulkAll]
  rcases List.mem_cons.1 h with e | e
  ·subst e; omega
  ·have:=I e; omega
theorem Io {H:Type}: ∀(l:List (DataW H)),l.length≤Rows.uptoBulkAll l:=by
 intro l
 induction l with
 | nil=>exact fh _
 | cons x r I=>have:=Q7 x; simp only [Rows.uptoBulkAll,bj]; omega
theorem C7 {H:Type}(a b:List (DataW H)): Rows.uptoBulk (.slice a b)=Rows.uptoBulkAll a+Rows.uptoBulkAll b+1:=by simp only [Rows.uptoBulk]
theorem Ip {H:Type}(a:List (DataW H)): Rows.uptoBulk (.agg a)=Rows.uptoBulkAll a+1:=by simp only [Rows.uptoBulk]
theorem KC {W:World}{b o:Nat}{C:Array Value}{e:TypeId}{I:Nat×Nat}(J:W.heap[b]?=some (.cells C e I)): W.cell? ⟨b,o,none⟩=C[o]?:=by
 unfold World.cell?
 simp only [J]
 rfl
section
variable {H':Type} {enc:TypeId×Value→H'} {W:World} {fuel B:Nat} {cs:List Value} {x:DataW H'×List MemPlace}
theorem KD (h:DataW.trod enc Tryz.prog W 0 (fun _=>true) true fuel 32 cs=some x)(hB:Rows.uptoBulk x.1≤B): nB W cs Sk (fun l=>l.length≤B):=by
 rcases open_ints aS Tryz.underlying5 (by kernel_rfl) h with ⟨rfl,rfl⟩ | ⟨a,len,cap,zs,rfl,_,Oo,_,hz,rfl,I,mL⟩
 ·exact fun c σ S h=>⟨c,σ,[.bA],[],h.sat fun h s=>s.rG.ga fun m r k=>⟨.bA,rfl,k⟩,Ext.refl c,by simp [conc],fun v J=>by rw [List.mem_singleton.1 J]; exact ⟨aa,rfl⟩,fh _⟩
 ·rw [aj rfl] at hz
  by_cases h0:cap=0
  ·have:len=0:=by omega
   subst this
   subst h0
   exact fun c σ S h=>⟨c,σ,[.sle a],[],h.sat fun h s=>(s.gx (φ:=True) aa).ga fun m r k=>⟨.sle a,rfl,by simp,.inl ⟨.inr ⟨a,rfl⟩,rfl⟩⟩,Ext.refl c,by simp [conc],fun v J=>by rw [List.mem_singleton.1 J]; exact ⟨aa,rfl⟩,fh _⟩
  ·have g0:=I 0 (by omega)
   obtain ⟨b,off,spot⟩:=a
   have hs:spot=none:=by simpa [Addr.add] using World.cell?_spot g0
   subst hs
   have I:∀i,i<zs.length→W.cell? ⟨b,off+i,none⟩=some (.int .u8 (zs.getD i 0)):=fun i hi=>by have:=I i hi; rwa [add_plain] at this
   obtain ⟨b',off',he,C,e,fz,hb,Sf⟩:=Im (I 0 (by omega))
   simp only [Addr.mk.injEq,td] at he
   obtain ⟨rfl,rfl⟩:=he
   have hC:∀i,i<zs.length→C[off+i]?=some (.int .u8 (zs.getD i 0)):=fun i hi=>by rw [←KC hb]; exact I i hi
   have aap:off<C.size:=by
    have:=(Array.getElem?_eq_some_iff.1 Sf).1
    omega
   have Y_:∀z∈zs,0≤z∧z<256:=fun z hz=>by
    have:=mL z hz
    simp only [Lit.wf,aY,eA] at this
    have e1:IntKind.min .u8=0:=rfl
    have e2:IntKind.max .u8=255:=rfl
    omega
   have U:((zs.take len).map Int.toNat).length=len:=by rw [d_,dJ]; omega
   have Em:(ofBytes ((zs.take len).map Int.toNat)).length=len:=by rw [dL,U]
   have aaq:∀y∈(zs.take len).map Int.toNat,y<256:=fun y hy=>by
    obtain ⟨z,Gb,rfl⟩:=List.mem_map.1 hy
    have:=Y_ z (gr Gb)
    omega
   intro c σ S h
   have iE:off+(ofBytes ((zs.take len).map Int.toNat)).length≤C.size:=by
    rw [Em]
    by_cases xE:len=0
    ·omega
    ·have:=(Array.getElem?_eq_some_iff.1 (hC (len-1) (by omega))).1
     omega
   have aar:∀j v,(ofBytes ((zs.take len).map Int.toNat))[j]?=some v→C[off+j]?=some (conc c v):=fun j v J=>by
    have hj:=(List.getElem?_eq_some_iff.1 J).1
    rw [Em] at hj
    rw [hC j (by omega)]
    simp only [ofBytes,vz,oV,lS,aj hj] at J
    have ER:zs[j]?=some (zs[j]'(by omega)):=bg _
    rw [ER] at J
    have J:=bt J
    subst J
    have hb:=Y_ (zs[j]'(by omega)) (oW _)
    have hd:zs.getD j 0=zs[j]'(by omega):=by rw [ke,ER]; rfl
    rw [hd]
    simp only [Function.comp,conc]
    congr 2
    omega
   obtain ⟨g1,g2,g3,g4,g5⟩:=h.1.fix h.2.1 hb (off:=off) iE aar (fun v J=>by obtain ⟨n,_,rfl⟩:=List.mem_map.1 J; exact ⟨aa,rfl⟩)
   refine ⟨_,_,[.sl σ.next 0 len (.exact cap)],(zs.take len).map Int.toNat,⟨g1,g2,?_⟩,g3,?_,fun v J => ?_,?_⟩
   ·have s1:=(h.2.2.new (.cells (ofBytes ((zs.take len).map Int.toNat)).length (ofBytes ((zs.take len).map Int.toNat)) true)).freeze
    refine s1.ga fun m r k=>⟨_,rfl,aaq,.inr ⟨σ.next,0,.exact cap,_,_,true,by rw [U],k,rfl,by rw [Em,U]; omega,?_,?_⟩⟩
    ·rw [dS]; exact fI (by rw [Em,U]; exact aL _)
    ·show _≤cap; rw [U]; exact Oo
   ·simp [conc,g4]
   ·rw [List.mem_singleton.1 J]
    exact ⟨⟨g5,Oo⟩,rfl⟩
   ·rw [C7] at hB
    have h1:=Io (lits (H:=H') .u8 (zs.take len))
    have h2:(lits (H:=H') .u8 (zs.take len)).length=len:=by simp [lits]; omega
    rw [U]; omega
theorem Fl {α:Type}{t e:TypeId}{k:Nat}{E:List V→α→ax}{A:List V→List α→ax}{φ:α→Prop}(ht:Tryz.prog.underlying t=some (.slice e))(hk:Tryz.prog.cellsOf e=k)(h1:1≤k)
 (hE:∀vs x,aE (E vs x))(hA:∀l m,aE (A l m))(J:∀m r,(A [] []).p m r)(KU:∀vs x l m a b,(E vs x).p a b→(A l m).p a b→(A (vs++l) (x::m)).p a b)
 (JJ:∀n cs (y:DataW H'×List MemPlace),DataW.trod enc Tryz.prog W 0 (fun _=>true) true n e cs=some y→Rows.uptoBulk y.1≤B→nB W cs E φ)
 (h:DataW.trod enc Tryz.prog W 0 (fun _=>true) true fuel t cs=some x)(hB:Rows.uptoBulk x.1≤B): nB W cs (C6 k A) (fun xs=>xs.length≤B∧∀x∈xs,φ x):=by
 rcases DataW.trod_slice ht h with ⟨rfl,rfl⟩ | ⟨a,len,cap,elems,rest,n,_,rfl,rfl,_,Oo,_,hlen,U,Oa,_⟩
 ·exact nB.aan J ⟨fh _,fun x hx=>(by cases hx)⟩
 ·obtain ⟨EW,Sl⟩:=Oa rfl
  rw [hk] at U Sl
  rw [C7] at hB
  by_cases h0:cap=0
  ·have:len=0:=by omega
   subst this
   subst h0
   exact nB.Wx J ⟨fh _,fun x hx=>(by cases hx)⟩
  ·-- each element's cells
   have each:∀i,i<cap→∃cs,W.cells? 0 (a.add (i*k)) k=some cs:=fun i hi=>by
    by_cases Cq:i<len
    ·have h2:=U i Cq
     rw [bg (by omega)] at h2
     obtain ⟨cs,h3,_⟩:=Option.bind_eq_some_iff.1 h2
     exact ⟨cs,h3⟩
    ·have h2:=Sl (i-len) (by omega)
     rw [bg (by omega),show len+(i-len)=i by omega] at h2
     obtain ⟨cs,h3,_⟩:=Option.bind_eq_some_iff.1 h2
     exact ⟨cs,h3⟩
   obtain ⟨cs0,aas⟩:=each 0 (by omega)
   obtain ⟨_,xE,Sf⟩:=World.cells?_some aas
   have g0:=Sf 0 (by omega)
   obtain ⟨v0,hv0⟩:∃v,cs0[0]?=some v:=⟨_,bg (by omega)⟩
   rw [hv0] at g0
   obtain ⟨b,off,spot⟩:=a
   have hs:spot=none:=by simpa [Addr.add] using World.cell?_spot g0
   subst hs
   simp only [add_plain,vA,iO] at g0
   obtain ⟨b',off',he,C,ty,fz,hb,xH⟩:=Im g0
   simp only [Addr.mk.injEq,td] at he
   obtain ⟨rfl,rfl⟩:=he
   have aap:off<C.size:=(Array.getElem?_eq_some_iff.1 xH).1
   -- the rows
   have rows:∀i,i<len→∃cs,cs.length=k∧nB W cs E φ∧∀q v,cs[q]?=some v→C[off+i*k+q]?=some v:=fun i hi=>by
    have h2:=U i hi
    rw [bg (by omega)] at h2
    obtain ⟨cs,h3,h4⟩:=Option.bind_eq_some_iff.1 h2
    obtain ⟨_,hl,hc⟩:=World.cells?_some h3
    refine ⟨cs,hl,JJ n cs _ h4 ?_,fun q v hq => ?_⟩
    ·have:=r7 (l:=elems.map (·.1)) (iX (oW (l:=elems) (n:=i) (by omega)))
     omega
    ·have hqk:q<k:=by rw [←hl]; exact (List.getElem?_eq_some_iff.1 hq).1
     have:=hc q hqk
     rw [add_plain,add_plain,KC hb,hq] at this
     exact this
   have build:∀m,m≤len→∃I:List (List Value),I.length=m∧(∀cs∈I,nB W cs E φ)∧I.flatten.length=m*k∧∀j v,I.flatten[j]?=some v→C[off+j]?=some v:=by
    intro m
    induction m with
    | zero=>intro _; exact ⟨[],rfl,fun cs h=>(by cases h),by simp,fun j v h=>by simp at h⟩
    | succ m ih =>
     intro hm
     obtain ⟨I,i1,i2,i3,i4⟩:=ih (by omega)
     obtain ⟨cs,r1,r2,r3⟩:=rows m (by omega)
     refine ⟨I++[cs],by simp [i1],fun y hy => ?_,by simp [i3,r1,ir],fun j v hj => ?_⟩
     ·rcases List.mem_append.1 hy with hy | hy
      ·exact i2 y hy
      ·rw [List.mem_singleton.1 hy]; exact r2
     ·rw [List.flatten_append,List.flatten_singleton] at hj
      by_cases bX:j<m*k
      ·rw [kf (by rw [i3]; exact bX)] at hj
       exact i4 j v hj
      ·rw [nC (by rw [i3]; omega),i3] at hj
       have:=r3 _ v hj
       rwa [show off+m*k+(j-m*k)=off+j by omega] at this
   obtain ⟨I,b1,b2,b3,b4⟩:=build len (aL _)
   have iE:off+I.flatten.length≤C.size:=by
    rw [b3]
    by_cases xE:len*k=0
    ·omega
    ·obtain ⟨v,hv⟩:∃v,I.flatten[len*k-1]?=some v:=⟨_,bg (by rw [b3]; omega)⟩
     have:=(Array.getElem?_eq_some_iff.1 (b4 _ v hv)).1
     omega
   have main:=nB.aao (k:=k) (len:=len) (cap:=cap) hb iE b3 Oo b4 hA (nB.rows hE hA J KU I b2)
   intro c σ S h
   obtain ⟨c1,T1,vs,x,q1,q2,q3,q4,q5,q6⟩:=main c σ S h
   refine ⟨c1,T1,vs,x,q1,q2,q3,q4,?_,q6⟩
   have:=Io (elems.map (·.1))
   rw [d_] at this
   omega
end
end Go.Proofs.YtconhghphklfjaaGreat.Am
namespace Go.Proofs.YtconhghphklfjaaGreat.Am
open Go Go.ChangeShapes Go.WideShapes Go.ChangeAt Go.RowKit
noncomputable def vj (P:Program)(t:TypeId): Array Field:=match P.underlying t with
 | some (.struct I)=>I
 | _ => #[]
def Fo (I:Array Field)(i:Nat): Option (TypeId×Nat):=(I[i]?).map fun f=>(f.type,f.offset)
theorem XH : Tryz.prog.underlying 134=some (.struct (vj Tryz.prog 134)):=by kernel_rfl
theorem XI : Tryz.prog.underlying 62=some (.struct (vj Tryz.prog 62)):=by kernel_rfl
theorem Sm : Tryz.prog.cellsOf 134=2:=by kernel_rfl
theorem Sn : Tryz.prog.cellsOf 62=4:=by kernel_rfl
theorem Iq : Tryz.prog.cellsOf 3=1:=by kernel_rfl
theorem Sq : Tryz.prog.cellsOf 32=1:=by kernel_rfl
theorem XJ : Tryz.prog.cellsOf 60=1:=by kernel_rfl
theorem XK : (vj Tryz.prog 134).size=2:=by kernel_rfl
theorem XL : (vj Tryz.prog 62).size=4:=by kernel_rfl
theorem XM : Fo (vj Tryz.prog 134) 0=some (3,0):=by kernel_rfl
theorem XN : Fo (vj Tryz.prog 134) 1=some (32,1):=by kernel_rfl
theorem XO : Fo (vj Tryz.prog 62) 0=some (3,0):=by kernel_rfl
theorem XP : Fo (vj Tryz.prog 62) 1=some (3,1):=by kernel_rfl
theorem XQ : Fo (vj Tryz.prog 62) 2=some (60,2):=by kernel_rfl
theorem XR : Fo (vj Tryz.prog 62) 3=some (32,3):=by kernel_rfl
theorem we {J:Array Field}{i:Nat}{t:TypeId}{o:Nat}(h:Fo J i=some (t,o)): ∃f,J[i]?=some f∧f.type=t∧f.offset=o:=by
 unfold Fo at h
 obtain ⟨f,U,I⟩:=Option.map_eq_some_iff.1 h
 simp only [aN] at I
 exact ⟨f,U,I.1,I.2⟩
def OW (vs:List V)(x:Int×List Nat): ax:=.xs fun u:V=>.an (.pu (vs=[.int .i64 x.1,u])) (.ct u x.2)
theorem aE.OW (vs:List V)(x:Int×List Nat): aE (Am.OW vs x):=aE.xs fun _=>aE.an (aE.pu _) (aE.ct _ _)
def OX (vs:List V)(D:iC): ax:=.xs fun w:V=>.xs fun d:V=>.an (.pu (vs=[.int .i64 D.act,.int .i64 D.cS,w,d])) (nX w d D)
theorem aE.OX (vs:List V)(D:iC): aE (Am.OX vs D):=aE.xs fun _=>aE.xs fun _=>aE.an (aE.pu _) (aE.nX _ _ _)
theorem Sr {α:Type}{l:List α}(h:l.length=2): ∃a b,l=[a,b]:=by
 rcases l with _ | ⟨a,_ | ⟨b,_ | ⟨c,l⟩⟩⟩ <;> simp at h
 exact ⟨a,b,rfl⟩
theorem Ss {α:Type}{l:List α}(h:l.length=4): ∃a b c d,l=[a,b,c,d]:=by
 rcases l with _ | ⟨a,_ | ⟨b,_ | ⟨c,_ | ⟨d,_ | ⟨e,l⟩⟩⟩⟩⟩ <;> simp at h
 exact ⟨a,b,c,d,rfl⟩
theorem AH {α β:Type}{f:α→β}{l:List α}{b:β}(h:l.map f=[b]): ∃a,l=[a]∧f a=b:=by
 rcases l with _ | ⟨a,_ | ⟨c,l⟩⟩
 ·cases h
 ·simp at h; exact ⟨a,rfl,h⟩
 ·simp at h
section
variable {H':Type} {enc:TypeId×Value→H'} {W:World} {fuel B:Nat} {cs:List Value} {x:DataW H'×List MemPlace}
theorem T2 (h:DataW.trod enc Tryz.prog W 0 (fun _=>true) true fuel 134 cs=some x)(hB:Rows.uptoBulk x.1≤B): nB W cs OW (fun y=>y.2.length≤B):=by
 obtain ⟨xs,n,rfl,rfl,hl,hx,hf⟩:=DataW.trod_struct XH h
 rw [Sm] at hl
 rw [XK] at hx
 obtain ⟨f0,a0,b0,c0⟩:=we XM
 obtain ⟨f1,a1,b1,c1⟩:=we XN
 have J:=hf 0 f0 a0
 have U:=hf 1 f1 a1
 rw [b0,c0,Iq] at J
 rw [b1,c1,Sq] at U
 obtain ⟨v0,v1,rfl⟩:=Sr hl
 obtain ⟨y0,I,rfl⟩:=Sr hx
 have J:DataW.trod enc Tryz.prog W 0 (fun _=>true) true n 3 [v0]=some y0:=J
 have U:DataW.trod enc Tryz.prog W 0 (fun _=>true) true n 32 [v1]=some I:=U
 obtain ⟨m,hm,_,_⟩:=DataW.trod_int bE J
 injection hm with hm _
 subst hm
 have KB:Rows.uptoBulk I.1≤B:=by
  rw [Ip] at hB
  have:=r7 (l:=[y0.1,I.1]) (d:=I.1) (by simp)
  have e:([y0,I].map (·.1))=[y0.1,I.1]:=rfl
  rw [e] at hB
  omega
 intro c σ S hr
 obtain ⟨c',iA,vs,l,r1,r2,r3,r4,r5⟩:=KD U KB c σ S hr
 obtain ⟨u,rfl,hu⟩:=AH r3
 refine ⟨c',iA,[.int .i64 m,u],(m,l),r1.sat fun h s=>s.ga fun a b k => ?_,r2,by simp [conc,hu],fun v hv => ?_,r5⟩
 ·obtain ⟨u',e,k⟩:=k
  injection e with e _
  subst e
  exact ⟨u,rfl,k⟩
 ·rcases List.mem_cons.1 hv with rfl | hv
  ·exact ⟨aa,rfl⟩
  ·exact r4 v hv
theorem Q8 (h:DataW.trod enc Tryz.prog W 0 (fun _=>true) true fuel 60 cs=some x)(I:Rows.uptoBulk x.1≤B): nB W cs (C6 2 n4) (fun xs=>xs.length≤B∧∀y∈xs,y.2.length≤B) :=
 Fl (E:=OW) CW Sm (by decide) aE.OW (fun l m=>aE.n4 m l) (fun _ _=>trivial) (fun vs x l m a b J U=>by
  obtain ⟨u,e,k⟩:=J
  have e:vs=[.int .i64 x.1,u]:=e
  subst e
  exact ⟨⟨rfl,k⟩,U⟩) (fun n cs y hy hb=>T2 hy hb) h I
theorem T3 (h:DataW.trod enc Tryz.prog W 0 (fun _=>true) true fuel 62 cs=some x)(hB:Rows.uptoBulk x.1≤B): nB W cs OX (fun D=>D.data.length≤B∧D.w.length≤B∧∀y∈D.w,y.2.length≤B):=by
 obtain ⟨xs,n,rfl,rfl,hl,hx,hf⟩:=DataW.trod_struct XI h
 rw [Sn] at hl
 rw [XL] at hx
 obtain ⟨f0,a0,b0,c0⟩:=we XO
 obtain ⟨f1,a1,b1,c1⟩:=we XP
 obtain ⟨f2,a2,b2,c2⟩:=we XQ
 obtain ⟨f3,a3,b3,c3⟩:=we XR
 have h0:=hf 0 f0 a0
 have h1:=hf 1 f1 a1
 have h2:=hf 2 f2 a2
 have h3:=hf 3 f3 a3
 rw [b0,c0,Iq] at h0
 rw [b1,c1,Iq] at h1
 rw [b2,c2,XJ] at h2
 rw [b3,c3,Sq] at h3
 obtain ⟨v0,v1,v2,v3,rfl⟩:=Ss hl
 obtain ⟨y0,y1,I,J,rfl⟩:=Ss hx
 have h0:DataW.trod enc Tryz.prog W 0 (fun _=>true) true n 3 [v0]=some y0:=h0
 have h1:DataW.trod enc Tryz.prog W 0 (fun _=>true) true n 3 [v1]=some y1:=h1
 have h2:DataW.trod enc Tryz.prog W 0 (fun _=>true) true n 60 [v2]=some I:=h2
 have h3:DataW.trod enc Tryz.prog W 0 (fun _=>true) true n 32 [v3]=some J:=h3
 obtain ⟨m0,U,_,_⟩:=DataW.trod_int bE h0
 injection U with U _
 subst U
 obtain ⟨m1,xO,_,_⟩:=DataW.trod_int bE h1
 injection xO with xO _
 subst xO
 rw [Ip] at hB
 have e:([y0,y1,I,J].map (·.1))=[y0.1,y1.1,I.1,J.1]:=rfl
 rw [e] at hB
 have hB2:Rows.uptoBulk I.1≤B:=by
  have:=r7 (l:=[y0.1,y1.1,I.1,J.1]) (d:=I.1) (by simp)
  omega
 have hB3:Rows.uptoBulk J.1≤B:=by
  have:=r7 (l:=[y0.1,y1.1,I.1,J.1]) (d:=J.1) (by simp)
  omega
 intro c σ S hr
 obtain ⟨c1,T1,vs1,l,r1,r2,r3,r4,r5⟩:=KD h3 hB3 c σ S hr
 obtain ⟨d,rfl,hd⟩:=AH r3
 obtain ⟨c2,σ2,vs2,ws,t1,t2,t3,t4,t5⟩:=Q8 h2 hB2 c1 T1 _ r1
 obtain ⟨w,rfl,hw⟩:=AH t3
 obtain ⟨q1,q2⟩:=cE t2 d (r4 d (by simp)).1
 refine ⟨c2,σ2,[.int .i64 m0,.int .i64 m1,w,d],⟨m0,m1,ws,l⟩,t1.sat fun h s=>s.two (aE.C6 (fun l m=>aE.n4 m l) _ _) (aE.Sk _ _) fun a b k1 k2 => ?_,r2.trans t2,by simp [conc,hw,q1,hd],fun v hv => ?_,r5,t5⟩
 ·obtain ⟨w',cs,e1,k1⟩:=k1
  obtain ⟨d',e2,k2⟩:=k2
  have e1:[w]=[w']:=e1
  have e2:[d]=[d']:=e2
  injection e1 with e1 _
  injection e2 with e2 _
  subst e1
  subst e2
  exact ⟨w,d,rfl,⟨cs,k1⟩,k2⟩
 ·simp only [eX,lT,qO] at hv
  rcases hv with rfl | rfl | rfl | rfl
  ·exact ⟨aa,rfl⟩
  ·exact ⟨aa,rfl⟩
  ·exact t4 _ (by simp)
  ·exact ⟨q2,(r4 _ (by simp)).2⟩
theorem Q9 (h:DataW.trod enc Tryz.prog W 0 (fun _=>true) true fuel 56 cs=some x)(I:Rows.uptoBulk x.1≤B): nB W cs (C6 4 jW) (fun xs=>xs.length≤B∧∀D∈xs,D.data.length≤B∧D.w.length≤B∧∀y∈D.w,y.2.length≤B) :=
 Fl (E:=OX) uE Sn (by decide) aE.OX (fun l m=>aE.jW m l) (fun _ _=>trivial) (fun vs x l m a b J U=>by
  obtain ⟨w,d,e,k⟩:=J
  have e:vs=[.int .i64 x.act,.int .i64 x.cS,w,d]:=e
  subst e
  exact ⟨⟨⟨rfl,rfl⟩,k⟩,U⟩) (fun n cs y hy hb=>T3 hy hb) h I
end
end Go.Proofs.YtconhghphklfjaaGreat.Am
namespace Go.Proofs.YtconhghphklfjaaGreat.Am
open Go Go.ChangeShapes Go.WideShapes Go.ChangeAt Go.RowKit
noncomputable def FW (f:Nat): Option (List V→H→Option (V×H)) :=
 cond (Nat.beq f 101) (some (nq Tryz.prog 101 FR)) (C5 f)
noncomputable abbrev CE : dw:=⟨Tryz.prog,FW⟩
theorem Q_ : W4 FW:=by
 refine ⟨⟨⟨⟨fun f I => ?_,rfl,rfl⟩,rfl,rfl⟩,toldAw,rfl,fun _=>rfl⟩,rfl⟩
 have J:f≠101:=fun e=>by subst e; revert I; decide
 simp only [FW,cN J,az]
 exact Q5.w.w.free f I
theorem Ir : gT CE:=by
 intro f g I
 simp only [CE,FW] at I ⊢
 by_cases J:f=101
 ·subst J
  rw [gR rfl,ah] at I
  simp only [au] at I
  subst I
  exact yU ⟨_,HK,rfl,by decide⟩
 ·rw [cN J,az] at I
  exact Q6 f g I
theorem gU.okE {f:FuncId}{args:List V}{h h':H}{v:V}(J:gU CE f args h v h'){c:Ctx}{w:World}(I:Rel c h w)(hw:∀x∈args,wf c x): fO Tryz.prog f args c w v h':=by
 obtain ⟨N,U⟩:=J
 exact (wA (C:=CE) (FF gY Ir N).1 Ir U I hw).1
end Go.Proofs.YtconhghphklfjaaGreat.Am
namespace Go.Proofs.YtconhghphklfjaaGreat.Am
open Go Go.ChangeShapes Go.WideShapes Go.ChangeAt Go.RowKit
theorem Me {H':Type}{enc:TypeId×Value→H'}{W:World}{I:Nat}{x1:DataW H'×List MemPlace}{v0:Value}(h1:DataW.trod enc Tryz.prog W 0 (fun _=>true) true I 56 [v0]=some x1)(KB:Rows.uptoBulk x1.1≤1048576):
  Calls Tryz.prog 7 #[v0] W fun e w'=>e=.returned (.bool true)∧W.keptBut w' (fun _=>False)∧W.heap.size≤w'.heap.size∧∀b,b<W.heap.size→w'.heap[b]?=W.heap[b]?:=by
 obtain ⟨c0,σ0,h0⟩:=zJ.zero W
 obtain ⟨c1,T1,vs1,L,hr,_,xO,U,hL,hD⟩:=Q9 h1 KB c0 σ0 [] h0
 obtain ⟨lv,rfl,hlv⟩:=AH xO
 have Rh:=U lv (by simp)
 obtain ⟨lv',s⟩:=gW.1 hr.2.2
 obtain ⟨cs,s⟩:=gW.1 s
 have s0:=s
 obtain ⟨_,_,_,_,hk⟩:=s0.at (k:=0) rfl
 have e:[lv]=[lv']:=hk.1
 injection e with e _
 subst e
 have s1:=((s.ga (B:=.an (j7 4 lv cs) (jW cs L)) fun _ _ k=>k.2).dup (aE.an (aE.j7 _ _ _) (aE.jW _ _))).ga (B:=j7 4 lv cs) (fun _ _ k=>k.1) |>.ae [1] |>.ga (B:=jW cs L) (fun _ _ k=>k.2) |>.ae [1]
 obtain ⟨v',h',B3,rfl⟩:=Q4 Q_ hD hL s1
 have J:=B3.okE hr.1 (fun x hx=>by rw [List.mem_singleton.1 hx]; exact Rh.1)
 unfold fO at J
 have ea:(([lv].map (conc c1)).toArray) = #[v0]:=by simp [hlv]
 rw [ea] at J
 refine Calls.mono J ?_
 rintro e w' ⟨c',rfl,_,_,hs⟩
 obtain ⟨k1,k2,k3⟩:=Js hr.2.1 hs
 exact ⟨by simp [conc],k1,k2,k3⟩
end Go.Proofs.YtconhghphklfjaaGreat.Am
namespace Go.Proofs.YtconhghphklfjaaGreat.AtomSame
open Go.ChangeShapes Go.WideShapes Go.ChangeAt Go.RowKit
theorem own : ownKnob Tryz.prog.godebug=none:=by kernel_rfl
theorem laid : laidOutB Tryz.prog=true:=by kernel_rfl
theorem L4 : Tryz.prog.readableRec 56=true:=by kernel_rfl
theorem row : (56:TypeId)<Tryz.prog.types.size:=of_decide_eq_true (by kernel_rfl)
set_option maxRecDepth 100000 in
theorem Ra (H : Type) (enc : TypeId × Value → H) (W : World) (base : Nat) (args : Array Value) (ds gs : List (DataW H)) (before : List MemPlace)
  (DH : ∀ (j : Nat) t v, Tryz.f7.params[j]? = some t → args[j]? = some v → Value.okWide Tryz.prog W .any base t v)
  (hW : DataW.Whole enc Tryz.prog Tryz.f7.params.toList Rows.atomSameSpec.vars false W args.toList ds gs before) (hk : Rows.uptoBulkAll (ds ++ gs) ≤ 1048576) :
  Calls Tryz.prog 7 args W fun e W' => ∃ v, e = .returned v ∧ Rows.atomSameSpec.post enc Tryz.prog Tryz.f7 false true false false W args v W' := by
 have Za := hW
 obtain ⟨p, q, hA0, hV, rfl, vI, m5⟩ := hW
 have hA : DataW.TrodAll enc Tryz.prog W 0 (fun _ => true) true Tryz.f7.params.toList args.toList ds p := hA0
 rw [Tryz.params7] at hA DH
 obtain ⟨v0, vs0, d0, ds0, p0, q0, RQ, rfl, rfl, h0, r0⟩ := trodAll_cons hA
 obtain ⟨rfl, rfl, rfl⟩ := trodAll_nil r0
 obtain rfl : args = #[v0] := by cases args; simp_all
 obtain ⟨rfl, rfl⟩ := trodVars_none hV
 obtain ⟨I, h0⟩ := h0
 have U : v0.cells.toList = [v0] := by
  have := DH 0 56 v0 rfl rfl
  simp only [Value.okWide, Tryz.underlying56, Cell.okWide, Cell.ok] at this
  split at this <;> first | rfl | exact this.elim
 have h0' := h0
 rw [U] at h0
 have AM : Rows.uptoBulk d0 ≤ 1048576 := by
  have := Am.r7 (l := ([d0] ++ ([] : List (DataW H)))) (d := d0) (by simp)
  exact Nat.le_trans this hk
 refine (Am.Me h0 AM).mono fun e W' ⟨he, hg, hs, J⟩ => ?_
 subst he
 have Wy : ∀ x ∈ p0, x.block < W.heap.size := fun x hx => Za.lt x (by simp [hx])
 have cS : ∀ {p : List MemPlace}, (∀ x ∈ p, x.block < W.heap.size) → ∀ x ∈ p, match x with | .cell b off => W'.cell? ⟨b, off, none⟩ = W.cell? ⟨b, off, none⟩ | .map b => W'.heap[b]? = W.heap[b]? := fun hp x hx => by
  have hl := hp x hx
  cases x with
  | cell b off =>
   show W'.cell? ⟨b, off, none⟩ = W.cell? ⟨b, off, none⟩
   unfold World.cell?
   rw [J b hl]
  | map b => exact J b hl
 have Wz : DataW.trod enc Tryz.prog W' 0 (fun b => decide (b < W.heap.size)) true I 56 v0.cells.toList = some (d0, p0) :=
  DataW.trod_stays (kids_book laid L4) (book_sized L4) (fun h => by cases h) ⟨row, book_self _⟩ h0' (cS Wy) (fun x hx => by simpa using Wy x hx)
 exact ⟨_, rfl, ⟨_, [], _, [], _, [], Za, trodAll_cons_mk (shut_bool Tryz.underlying4 _) trodAll_mk0, trodAll_cons_mk ⟨I, Wz⟩ trodAll_mk0, rfl, World.keptBut_mono (fun _ f => f.elim) hg, fun h => by cases h⟩⟩
set_option maxRecDepth 100000 in
theorem lifted (os:Os)(started:os.Started)(H:Type)(enc:TypeId×Value→H)(F:Stop.Interp):
  ReturnsInHanded {} Tryz.checked os 7 .any ((Rows.OpenSpec.upto Rows.atomSameSpec).pre6 enc Tryz.prog Tryz.f7 Rows.atomSameUptoRow.domain false) (((Rows.OpenSpec.upto Rows.atomSameSpec).at F).post enc Tryz.prog Tryz.f7 false true false false):=by
 refine returnsInHanded_of_cond (C:=Tryz.checked) (s:=Rows.OpenSpec.upto Rows.atomSameSpec) (k:=Rows.uptoSmall) rfl own started (by kernel_rfl) Tryz.func7
  (OpenSpec.witness (enc:=enc) (C:=Tryz.checked) (s:=Rows.OpenSpec.upto Rows.atomSameSpec) (k:=Rows.uptoSmall) rfl false ⟨#[], #[.slice none 0 0],[]⟩ 8 (by kernel_rfl) (by kernel_rfl) (by kernel_rfl)
   (x:=([.nil],[],[])) (by kernel_rfl) rfl (by kernel_rfl)) ?_
 intro W base args ds gs before I J _ U _
 exact Ra H enc W base args ds gs before I J (of_decide_eq_true U)
theorem b_ : Rows.atomSameUptoRow.holds Tryz.pinned (Rows.OpenSpec.upto Rows.atomSameSpec) :=
 OpenClaim.holds_of_cond 7 Tryz.f7 rfl rfl rfl rfl rfl rfl rfl ⟨rfl,rfl,rfl,rfl,rfl⟩ rfl rfl rfl rfl rfl (by kernel_rfl) Tryz.func7 (by kernel_rfl)
  (of_decide_eq_true (by kernel_rfl)) (by unfold Func.isWrapper; first | (rw [if_pos (by decide +kernel)]; kernel_rfl) | (rw [if_neg (by decide +kernel)]; exact ⟨rfl,rfl⟩))
  (fun os started H enc _ F=>lifted os started H enc F)
theorem proved : Rows.AtomSameUptoSaid :=
 b_
#print axioms proved
end Go.Proofs.YtconhghphklfjaaGreat.AtomSame
