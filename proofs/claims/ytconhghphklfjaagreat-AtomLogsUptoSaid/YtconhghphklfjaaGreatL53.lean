/- After a crash the log has the records of the groups that are there and no others, with their numbers and data; the conditions are those of the given statement, for arguments that a machine can hold. Part 53 of 54. -/
import Derived.Test.YtconhghphklfjaaGreatL34
import Derived.Test.YtconhghphklfjaaGreatL46
import Derived.WalkKit
import Derived.ProofKit
import Derived.OpenShut
import Derived.ChangeSlices
import Derived.Test.YtconhghphklfjaaGreatRows
namespace Go.Proofs.YtconhghphklfjaaGreat.Am
open Go
set_option maxRecDepth 10000000 in
set_option maxHeartbeats 0 in
theorem EG : isTrue (HX CB 100000 11 [] ⟨0,.lf⟩)=true:=by kernel_rfl
noncomputable def toldAw : List V→H→Option (V×H)
 | [],h=>some (.bool true,h)
 | _,_=>none
theorem Rel.grown {c:Ctx}{σ:H}{w w':World}(h:Rel c σ w)(hs:w.heap.size≤w'.heap.size)(J:∀b,b<w.heap.size→w'.heap[b]?=w.heap[b]?)(ho:w'.os=w.os∧w'.output=w.output): Rel c σ w'∧cm c w c w':=by
 have rows:∀b,b<w.heap.size→rowSize w' b=rowSize w b:=fun b I=>by unfold rowSize; rw [J b I]
 refine ⟨⟨h.next,h.live,fun id hi=>Nat.lt_of_lt_of_le (h.gL id hi) hs,fun id hi=>by rw [rows _ (h.gL id hi)]; exact h.zz id hi,h.inj,
  fun id o ho=>(h.obj id o ho).later (Ext.refl c) (h.live id o ho) (J _ (h.gL id (h.live id o ho))),h.one,h.fx⟩,
  ⟨Ext.refl c,hs,rows,fun b I _=>J b I,fun id U h2=>by omega,ho⟩⟩
theorem Hr : wz Tryz.prog 11 toldAw:=by
 refine .inl ⟨⟨_,Tryz.func11,rfl,by decide⟩,fun args σ v fg J c w h hw => ?_⟩
 unfold toldAw at J
 split at J
 ·simp only [Option.some.injEq,Prod.mk.injEq] at J
  obtain ⟨rfl,rfl⟩:=J
  have I:=EG
  rw [K0] at I
  cases U:run CB 100000 11 [] ⟨0,.lf⟩ with
  | none=>rw [U] at I; cases I
  | some x =>
   obtain ⟨v,h'⟩:=x
   rw [U] at I
   have hv:v=.bool true:=by
    unfold isTrue at I
    split at I
    ·rename_i he; simp only [Option.some.injEq,Prod.mk.injEq] at he; exact he.1
    ·cases I
   subst hv
   have:=vb (C:=CB) gq eX U (Rel.empty w) (fun x hx=>by cases hx)
   unfold ei at this ⊢
   refine Calls.mono this ?_
   rintro e w' ⟨c',rfl,_,_,hs⟩
   obtain ⟨g1,g2⟩:=h.grown hs.size (fun b hb=>hs.bX b hb fun id qG=>absurd qG (Nat.not_lt_zero _)) hs.sys
   exact ⟨c,rfl,trivial,g1,g2⟩
 ·cases J
end Go.Proofs.YtconhghphklfjaaGreat.Am
namespace Go.Proofs.YtconhghphklfjaaGreat.Am
open Go
noncomputable def vZ (f:Nat): Option (List V→H→Option (V×H)) :=
 cond (Nat.beq f 11) (some toldAw) (cond (Nat.beq f 75) (some (ju Tryz.prog 75 w5))
  (cond (Nat.beq f 76) (some (ju Tryz.prog 76 GF)) (vL f)))
noncomputable abbrev CL : cf:=⟨Tryz.prog,vZ⟩
theorem Jw : W3 vZ:=by
 refine ⟨⟨⟨fun f I => ?_,rfl,rfl⟩,rfl,rfl⟩,toldAw,rfl,fun _=>rfl⟩
 have J:f≠11:=fun e=>by subst e; revert I; decide
 have U:f≠75:=fun e=>by subst e; revert I; decide
 have h3:f≠76:=fun e=>by subst e; revert I; decide
 simp only [vZ,bT J,bT U,bT h3,cond_false]
 exact W.base.free f I
theorem Jx : eM CL:=by
 intro f g I
 simp only [CL,vZ] at I ⊢
 by_cases J:f=11
 ·subst J
  rw [eH rfl,cond_true] at I
  simp only [Option.some.injEq] at I
  subst I
  exact Hr
 ·rw [bT J,cond_false] at I
  by_cases U:f=75
  ·subst U
   rw [eH rfl,cond_true] at I
   simp only [Option.some.injEq] at I
   subst I
   exact rZ ⟨_,Tryz.func75,rfl,by decide⟩
  ·rw [bT U,cond_false] at I
   by_cases h3:f=76
   ·subst h3
    rw [eH rfl,cond_true] at I
    simp only [Option.some.injEq] at I
    subst I
    exact rZ ⟨_,Tryz.func76,rfl,by decide⟩
   ·rw [bT h3,cond_false] at I
    exact eX f g I
def Be (c:Ctx): Prop:=∀id,id<c.N→c.X id=true
noncomputable def Ctx.fix (c:Ctx)(w:World)(b off:Nat): Ctx:=⟨fun i=>if i=c.N then (b,off) else c.ρ i,fun x=>if x=b then rowSize w b else c.Z x,c.N+1,fun i=>if i=c.N then true else c.X i⟩
theorem Rel.fix {c:Ctx}{σ:H}{w:World}(h:Rel c σ w)(hX:Be c){b off:Nat}{cs:List V}{C:Array Value}{e:TypeId}{fz:Nat×Nat}(hb:w.heap[b]?=some (.cells C e fz))(hl:off+cs.length≤C.size)
 (hc:∀j v,cs[j]?=some v→C[off+j]?=some (conc c v))(iS:∀v∈cs,wf c v∧storable v=true):
  Rel (c.fix w b off) (σ.new (.cells cs.length cs true)) w∧Be (c.fix w b off)∧Ext c (c.fix w b off)∧(c.fix w b off).ρ σ.next=(b,off)∧σ.next<(c.fix w b off).N:=by
 have hold:∀i,i<c.N→(c.fix w b off).ρ i=c.ρ i:=fun i hi=>by simp [Ctx.fix,Nat.ne_of_lt hi]
 have Ou:∀i,i<c.N→(c.fix w b off).X i=c.X i:=fun i hi=>by simp [Ctx.fix,Nat.ne_of_lt hi]
 have I:(c.fix w b off).ρ c.N=(b,off):=by simp [Ctx.fix]
 have U1:(c.fix w b off).X c.N=true:=by simp [Ctx.fix]
 have hN:(c.fix w b off).N=c.N+1:=rfl
 have bB:b<w.heap.size:=(Array.getElem?_eq_some_iff.1 hb).1
 have U:Be (c.fix w b off):=fun i hi=>by
  by_cases J:i=c.N
  ·rw [J]; exact U1
  ·rw [Ou i (by rw [hN] at hi; omega)]; exact hX i (by rw [hN] at hi; omega)
 have ex:Ext c (c.fix w b off):=⟨by rw [hN]; omega,hold,fun i hi=>by
  show (if (c.ρ i).1=b then rowSize w b else c.Z (c.ρ i).1)=_
  split
  ·rename_i he; rw [h.zz i hi,he]
  ·rfl,Ou⟩
 have key:∀i o,(σ.new (.cells cs.length cs true)).tr.get i=some o→(i=c.N∧o=.cells cs.length cs true)∨(i<c.N∧σ.tr.get i=some o):=by
  intro i o hi
  rw [eZ,h.next] at hi
  by_cases J:i=c.N
  ·simp [J] at hi; exact .inl ⟨J,hi.symm⟩
  ·simp [J] at hi; exact .inr ⟨h.live i o hi,hi⟩
 refine ⟨⟨by simp [H.new,h.next,hN],fun i o hi => ?_,fun i hi => ?_,fun i hi => ?_,fun i j o o' hi hj he => ?_,fun i o hi => ?_,fun i mK jl hi hx => ?_,fun i o hi hx => ?_⟩,U,ex,by rw [h.next]; exact I,by rw [h.next,hN]; omega⟩
 ·rw [hN]; rcases key i o hi with ⟨J,_⟩ | ⟨J,_⟩ <;> omega
 ·rw [hN] at hi
  by_cases J:i=c.N
  ·rw [J,I]; exact bB
  ·rw [hold i (by omega)]; exact h.gL i (by omega)
 ·rw [hN] at hi
  by_cases J:i=c.N
  ·rw [J,I]; show (if b=b then rowSize w b else c.Z b)=_; rw [if_pos rfl]
  ·rw [hold i (by omega)]
   show (if (c.ρ i).1=b then rowSize w b else c.Z (c.ρ i).1)=_
   split
   ·rename_i he; rw [he]
   ·exact h.zz i (by omega)
 ·have li:i<c.N+1:=by rcases key i o hi with ⟨J,_⟩ | ⟨J,_⟩ <;> omega
  have lj:j<c.N+1:=by rcases key j o' hj with ⟨J,_⟩ | ⟨J,_⟩ <;> omega
  exact .inr ⟨U i (by rw [hN]; exact li),U j (by rw [hN]; exact lj)⟩
 ·rcases key i o hi with ⟨rfl,rfl⟩ | ⟨a1,a2⟩
  ·refine ⟨rfl,fun v hv=>⟨(bG ex v (iS v hv).1).2,(iS v hv).2⟩,C,e,fz,by rw [I]; exact hb,by rw [I]; exact hl,fun j v hj => ?_,trivial⟩
   rw [I,(bG ex v (iS v (List.mem_of_getElem? hj)).1).1]
   exact hc j v hj
  ·exact (h.obj i o a2).later ex a1 rfl
 ·have li:i<c.N+1:=by rcases key i _ hi with ⟨J,_⟩ | ⟨J,_⟩ <;> omega
  rw [U i (by rw [hN]; exact li)] at hx; cases hx
 ·rcases key i o hi with ⟨_,rfl⟩ | ⟨a1,a2⟩
  ·exact ⟨_,_,rfl⟩
  ·rw [Ou i a1] at hx; exact h.fx i o a2 hx
theorem Cg {c U:Ctx}{w w':World}(hX:Be c)(h:cm c w U w'): w.keptBut w' (fun _=>False)∧w.heap.size≤w'.heap.size∧∀b,b<w.heap.size→w'.heap[b]?=w.heap[b]?:=by
 have J:∀b,b<w.heap.size→w'.heap[b]?=w.heap[b]?:=fun b hb=>h.bX b hb fun id I _=>hX id I
 refine ⟨⟨h.sys.1,h.sys.2,fun i hi => ?_⟩,h.size,J⟩
 rw [J i hi]
 split <;> simp_all
end Go.Proofs.YtconhghphklfjaaGreat.Am
namespace Go.Proofs.YtconhghphklfjaaGreat.Am
open Go Go.ChangeShapes
def sq (W:World)(S:List ah)(c:Ctx)(σ:H): Prop:=Rel c σ W∧Be c∧Sat σ S
theorem sq.zero (W:World): ∃c σ,sq W [] c σ:=by
 refine ⟨_,_,Rel.empty W,fun id h=>absurd h (Nat.not_lt_zero _),⟨fun id o h=>by simp [T.gh] at h,fun _=>none,fun _=>none,fun _ _ h=>(by cases h),fun _ _ h=>(by cases h),fun _=>.inl rfl,trivial⟩⟩
theorem sq.sat {W:World}{S S':List ah}{c:Ctx}{σ:H}(h:sq W S c σ)(hs:∀h,Sat h S→Sat h S'): sq W S' c σ:=⟨h.1,h.2.1,hs σ h.2.2⟩
def jB {α:Type}(W:World)(cs:List Value)(E:List V→α→ah)(φ:α→Prop): Prop :=
 ∀(c:Ctx) (σ:H) (S:List ah),sq W S c σ→∃(I:Ctx) (J:H) (vs:List V) (x:α),sq W (E vs x::S) I J∧Ext c I∧vs.map (conc I)=cs∧(∀v∈vs,wf I v∧storable v=true)∧φ x
theorem jB.rows {W:World}{α:Type}{E:List V→α→ah}{A:List V→List α→ah}{φ:α→Prop}(hE:∀vs x,aq (E vs x))(hA:∀l m,aq (A l m))(ue:∀m r,(A [] []).p m r)(U:∀vs x l m a b,(E vs x).p a b→(A l m).p a b→(A (vs++l) (x::m)).p a b):
  ∀(I:List (List Value)),(∀cs∈I,jB W cs E φ)→jB W I.flatten A (fun xs=>xs.length=I.length∧∀x∈xs,φ x):=by
 intro I
 induction I with
 | nil =>
  intro _ c σ S h
  exact ⟨c,σ,[],[],h.sat fun h s=>(s.eu (φ:=True) trivial).dY fun m r _=>ue m r,Ext.refl c,rfl,fun v J=>(by cases J),rfl,fun x hx=>(by cases hx)⟩
 | cons cs I ih =>
  intro hc c σ S h
  obtain ⟨c1,Jy,l,m,h1,e1,m1,w1,n1,p1⟩:=ih (fun x hx=>hc x (List.mem_cons_of_mem _ hx)) c σ S h
  obtain ⟨c2,Sk,vs,x,h2,e2,m2,w2,p2⟩:=hc cs List.mem_cons_self c1 Jy _ h1
  obtain ⟨q1,q2⟩:=yY e2 fun v J=>(w1 v J).1
  refine ⟨c2,Sk,vs++l,x::m,h2.sat fun h s=>s.two (hE _ _) (hA _ _) fun a b k1 k2=>U _ _ _ _ _ _ k1 k2,e1.trans e2,?_,fun v J => ?_,by simp [n1],fun y hy => ?_⟩
  ·rw [List.map_append,m2,q1,m1,List.flatten_cons]
  ·rcases List.mem_append.1 J with J | J
   ·exact w2 v J
   ·exact ⟨q2 v J,(w1 v J).2⟩
  ·rcases List.mem_cons.1 hy with rfl | hy
   ·exact p2
   ·exact p1 y hy
def v7 {α:Type}(k:Nat)(A:List V→List α→ah)(vs:List V)(x:List α): ah:=.xs fun v:V=>.xs fun cs:List V=>.an (.pu (vs=[v])) (.an (gd k v cs) (A cs x))
theorem aq.v7 {α:Type}{k:Nat}{A:List V→List α→ah}(I:∀l m,aq (A l m))(vs:List V)(x:List α): aq (Am.v7 k A vs x):=aq.xs fun _=>aq.xs fun _=>aq.an (aq.pu _) (aq.an (aq.gd _ _ _) (I _ _))
theorem jB.Sl {W:World}{α:Type}{k:Nat}{A:List V→List α→ah}{φ:List α→Prop}(I:∀m r,(A [] []).p m r)(J:φ []): jB W [.slice none 0 0] (v7 k A) φ:=fun c σ S h =>
 ⟨c,σ,[.aH],[],h.sat fun h s=>(s.eu (φ:=True) trivial).dY fun m r _=>⟨.aH,[],rfl,⟨none,.inl rfl,rfl⟩,I m r⟩,Ext.refl c,by simp [conc],fun v U=>by rw [List.mem_singleton.1 U]; exact ⟨trivial,rfl⟩,J⟩
theorem jB.Ov {W:World}{α:Type}{k:Nat}{A:List V→List α→ah}{φ:List α→Prop}{a:Addr}(I:∀m r,(A [] []).p m r)(J:φ []): jB W [.slice (some a) 0 0] (v7 k A) φ:=fun c σ S h =>
 ⟨c,σ,[.sle a],[],h.sat fun h s=>(s.eu (φ:=True) trivial).dY fun m r _=>⟨.sle a,[],rfl,⟨none,.inr ⟨a,rfl⟩,rfl⟩,I m r⟩,Ext.refl c,by simp [conc],fun v U=>by rw [List.mem_singleton.1 U]; exact ⟨trivial,rfl⟩,J⟩
theorem jB.Sm {W:World}{α:Type}{k b off len cap:Nat}{A:List V→List α→ah}{φ:List α→Prop}{cs:List Value}{C:Array Value}{e:TypeId}{fz:Nat×Nat}(hb:W.heap[b]?=some (.cells C e fz))(hl:off+cs.length≤C.size)(hn:cs.length=len*k)(J:len≤cap)
 (hc:∀j v,cs[j]?=some v→C[off+j]?=some v)(hA:∀l m,aq (A l m))(ho:jB W cs A φ): jB W [.slice (some ⟨b,off,none⟩) len cap] (v7 k A) φ:=by
 intro c σ S h
 obtain ⟨c1,I,vs,x,U,e1,m1,w1,p1⟩:=ho c σ S h
 have hlen:vs.length=cs.length:=by rw [←m1,List.length_map]
 obtain ⟨g1,g2,g3,g4,g5⟩:=U.1.fix U.2.1 hb (cs:=vs) (off:=off) (by omega) (fun j v hv=>hc j _ (by rw [←m1,List.getElem?_map,hv]; rfl)) w1
 refine ⟨_,_,[.sl I.next 0 len (.exact cap)],x,⟨g1,g2,?_⟩,e1.trans g3,?_,fun v hv => ?_,p1⟩
 ·have s1:Sat (I.new (.cells vs.length vs true)) (.ro I.next (.cells vs.length vs true)::A vs x::S):=(U.2.2.new _).freeze
  refine s1.two (aq.ro _ _) (hA _ _) fun m r k1 k2=>⟨_,vs,rfl,⟨some (I.next,len,cap),k1,rfl,by rw [hlen,hn]⟩,k2⟩
 ·simp [conc,g4]
 ·rw [List.mem_singleton.1 hv]
  exact ⟨⟨g5,J⟩,rfl⟩
def Kx (vs:List V)(l:List Nat): ah:=.xs fun v:V=>.an (.pu (vs=[v])) (.bp v l)
theorem aq.Kx (vs:List V)(l:List Nat): aq (Am.Kx vs l):=aq.xs fun _=>aq.an (aq.pu _) (aq.bp _ _)
theorem Bf {W:World}{a:Addr}{v:Value}(h:W.cell? a=some v): ∃b off,a=⟨b,off,none⟩∧∃C e I,W.heap[b]?=some (.cells C e I)∧C[off]?=some v:=by
 obtain ⟨b,off,spot⟩:=a
 have hs:spot=none:=World.cell?_spot h
 subst hs
 refine ⟨b,off,rfl,?_⟩
 unfold World.cell? at h
 split at h
 ·rename_i C e I J
  exact ⟨C,e,I,J,by simpa using h⟩
 ·cases h
end Go.Proofs.YtconhghphklfjaaGreat.Am
namespace Go.Proofs.YtconhghphklfjaaGreat.Am
open Go Go.ChangeShapes Go.WideShapes Go.ChangeAt Go.RowKit
theorem Jz {H:Type}(d:DataW H): 1≤Rows.uptoBulk d:=by
 cases d with
 | lit l=>cases l <;> simp [Rows.uptoBulk]
 | nil=>simp [Rows.uptoBulk]
 | ptr d=>simp [Rows.uptoBulk]
 | slice elems spare=>simp [Rows.uptoBulk]
 | agg parts=>simp [Rows.uptoBulk]
 | iface t d=>simp [Rows.uptoBulk]
 | map entries=>simp [Rows.uptoBulk]
 | held h=>simp [Rows.uptoBulk]
theorem kN {H:Type}{d:DataW H}: ∀ {l:List (DataW H)},d∈l→Rows.uptoBulk d≤Rows.uptoBulkAll l:=by
 intro l
 induction l with
 | nil=>intro h; cases h
 | cons x r I =>
  intro h
  simp only [Rows.uptoBulkAll]
  rcases List.mem_cons.1 h with e | e
  ·subst e; omega
  ·have:=I e; omega
theorem Bg {H:Type}: ∀(l:List (DataW H)),l.length≤Rows.uptoBulkAll l:=by
 intro l
 induction l with
 | nil=>exact Nat.zero_le _
 | cons x r I=>have:=Jz x; simp only [Rows.uptoBulkAll,List.length_cons]; omega
theorem v8 {H:Type}(a b:List (DataW H)): Rows.uptoBulk (.slice a b)=Rows.uptoBulkAll a+Rows.uptoBulkAll b+1:=by simp only [Rows.uptoBulk]
theorem Bh {H:Type}(a:List (DataW H)): Rows.uptoBulk (.agg a)=Rows.uptoBulkAll a+1:=by simp only [Rows.uptoBulk]
theorem Db {W:World}{b o:Nat}{C:Array Value}{e:TypeId}{I:Nat×Nat}(J:W.heap[b]?=some (.cells C e I)): W.cell? ⟨b,o,none⟩=C[o]?:=by
 unfold World.cell?
 simp only [J]
 rfl
section
variable {H':Type} {enc:TypeId×Value→H'} {W:World} {fuel B:Nat} {cs:List Value} {x:DataW H'×List MemPlace}
theorem xg (h:DataW.trod enc Tryz.prog W 0 (fun _=>true) true fuel 32 cs=some x)(hB:Rows.uptoBulk x.1≤B): jB W cs Kx (fun l=>l.length≤B):=by
 rcases open_ints Tryz.underlying32 Tryz.underlying5 (by kernel_rfl) h with ⟨rfl,rfl⟩ | ⟨a,len,cap,zs,rfl,_,Ky,_,hz,rfl,I,iS⟩
 ·exact fun c σ S h=>⟨c,σ,[.aH],[],h.sat fun h s=>s.mh.dY fun m r k=>⟨.aH,rfl,k⟩,Ext.refl c,by simp [conc],fun v J=>by rw [List.mem_singleton.1 J]; exact ⟨trivial,rfl⟩,Nat.zero_le _⟩
 ·rw [if_pos rfl] at hz
  by_cases h0:cap=0
  ·have:len=0:=by omega
   subst this
   subst h0
   exact fun c σ S h=>⟨c,σ,[.sle a],[],h.sat fun h s=>(s.eu (φ:=True) trivial).dY fun m r k=>⟨.sle a,rfl,by simp,.inl ⟨.inr ⟨a,rfl⟩,rfl⟩⟩,Ext.refl c,by simp [conc],fun v J=>by rw [List.mem_singleton.1 J]; exact ⟨trivial,rfl⟩,Nat.zero_le _⟩
  ·have g0:=I 0 (by omega)
   obtain ⟨b,off,spot⟩:=a
   have hs:spot=none:=by simpa [Addr.add] using World.cell?_spot g0
   subst hs
   have I:∀i,i<zs.length→W.cell? ⟨b,off+i,none⟩=some (.int .u8 (zs.getD i 0)):=fun i hi=>by have:=I i hi; rwa [add_plain] at this
   obtain ⟨b',off',he,C,e,fz,hb,Kw⟩:=Bf (I 0 (by omega))
   simp only [Addr.mk.injEq,and_true] at he
   obtain ⟨rfl,rfl⟩:=he
   have hC:∀i,i<zs.length→C[off+i]?=some (.int .u8 (zs.getD i 0)):=fun i hi=>by rw [←Db hb]; exact I i hi
   have Sn:off<C.size:=by
    have:=(Array.getElem?_eq_some_iff.1 Kw).1
    omega
   have Re:∀z∈zs,0≤z∧z<256:=fun z hz=>by
    have:=iS z hz
    simp only [Lit.wf,Bool.and_eq_true,decide_eq_true_eq] at this
    have e1:IntKind.min .u8=0:=rfl
    have e2:IntKind.max .u8=255:=rfl
    omega
   have U:((zs.take len).map Int.toNat).length=len:=by rw [List.length_map,List.length_take]; omega
   have xn:(ofBytes ((zs.take len).map Int.toNat)).length=len:=by rw [cu,U]
   have Sq:∀y∈(zs.take len).map Int.toNat,y<256:=fun y hy=>by
    obtain ⟨z,zk,rfl⟩:=List.mem_map.1 hy
    have:=Re z (List.mem_of_mem_take zk)
    omega
   intro c σ S h
   have gV:off+(ofBytes ((zs.take len).map Int.toNat)).length≤C.size:=by
    rw [xn]
    by_cases xo:len=0
    ·omega
    ·have:=(Array.getElem?_eq_some_iff.1 (hC (len-1) (by omega))).1
     omega
   have Sr:∀j v,(ofBytes ((zs.take len).map Int.toNat))[j]?=some v→C[off+j]?=some (conc c v):=fun j v J=>by
    have hj:=(List.getElem?_eq_some_iff.1 J).1
    rw [xn] at hj
    rw [hC j (by omega)]
    simp only [ofBytes,List.map_map,List.getElem?_map,List.getElem?_take,if_pos hj] at J
    have Ap:zs[j]?=some (zs[j]'(by omega)):=List.getElem?_eq_getElem _
    rw [Ap] at J
    have J:=Option.some.inj J
    subst J
    have hb:=Re (zs[j]'(by omega)) (List.getElem_mem _)
    have hd:zs.getD j 0=zs[j]'(by omega):=by rw [List.getD_eq_getElem?_getD,Ap]; rfl
    rw [hd]
    simp only [Function.comp,conc]
    congr 2
    omega
   obtain ⟨g1,g2,g3,g4,g5⟩:=h.1.fix h.2.1 hb (off:=off) gV Sr (fun v J=>by obtain ⟨n,_,rfl⟩:=List.mem_map.1 J; exact ⟨trivial,rfl⟩)
   refine ⟨_,_,[.sl σ.next 0 len (.exact cap)],(zs.take len).map Int.toNat,⟨g1,g2,?_⟩,g3,?_,fun v J => ?_,?_⟩
   ·have s1:=(h.2.2.new (.cells (ofBytes ((zs.take len).map Int.toNat)).length (ofBytes ((zs.take len).map Int.toNat)) true)).freeze
    refine s1.dY fun m r k=>⟨_,rfl,Sq,.inr ⟨σ.next,0,.exact cap,_,_,true,by rw [U],k,rfl,by rw [xn,U]; omega,?_,?_⟩⟩
    ·rw [List.drop_zero]; exact List.take_of_length_le (by rw [xn,U]; exact Nat.le_refl _)
    ·show _≤cap; rw [U]; exact Ky
   ·simp [conc,g4]
   ·rw [List.mem_singleton.1 J]
    exact ⟨⟨g5,Ky⟩,rfl⟩
   ·rw [v8] at hB
    have h1:=Bg (lits (H:=H') .u8 (zs.take len))
    have h2:(lits (H:=H') .u8 (zs.take len)).length=len:=by simp [lits]; omega
    rw [U]; omega
theorem yp {α:Type}{t e:TypeId}{k:Nat}{E:List V→α→ah}{A:List V→List α→ah}{φ:α→Prop}(ht:Tryz.prog.underlying t=some (.slice e))(hk:Tryz.prog.cellsOf e=k)(h1:1≤k)
 (hE:∀vs x,aq (E vs x))(hA:∀l m,aq (A l m))(J:∀m r,(A [] []).p m r)(Du:∀vs x l m a b,(E vs x).p a b→(A l m).p a b→(A (vs++l) (x::m)).p a b)
 (Cw:∀n cs (y:DataW H'×List MemPlace),DataW.trod enc Tryz.prog W 0 (fun _=>true) true n e cs=some y→Rows.uptoBulk y.1≤B→jB W cs E φ)
 (h:DataW.trod enc Tryz.prog W 0 (fun _=>true) true fuel t cs=some x)(hB:Rows.uptoBulk x.1≤B): jB W cs (v7 k A) (fun xs=>xs.length≤B∧∀x∈xs,φ x):=by
 rcases DataW.trod_slice ht h with ⟨rfl,rfl⟩ | ⟨a,len,cap,elems,rest,n,_,rfl,rfl,_,Ky,_,hlen,U,U2,_⟩
 ·exact jB.Sl J ⟨Nat.zero_le _,fun x hx=>(by cases hx)⟩
 ·obtain ⟨xT,Kz⟩:=U2 rfl
  rw [hk] at U Kz
  rw [v8] at hB
  by_cases h0:cap=0
  ·have:len=0:=by omega
   subst this
   subst h0
   exact jB.Ov J ⟨Nat.zero_le _,fun x hx=>(by cases hx)⟩
  ·-- each element's cells
   have each:∀i,i<cap→∃cs,W.cells? 0 (a.add (i*k)) k=some cs:=fun i hi=>by
    by_cases Ag:i<len
    ·have h2:=U i Ag
     rw [List.getElem?_eq_getElem (by omega)] at h2
     obtain ⟨cs,h3,_⟩:=Option.bind_eq_some_iff.1 h2
     exact ⟨cs,h3⟩
    ·have h2:=Kz (i-len) (by omega)
     rw [List.getElem?_eq_getElem (by omega),show len+(i-len)=i by omega] at h2
     obtain ⟨cs,h3,_⟩:=Option.bind_eq_some_iff.1 h2
     exact ⟨cs,h3⟩
   obtain ⟨U3,Ss⟩:=each 0 (by omega)
   obtain ⟨_,xo,Kw⟩:=World.cells?_some Ss
   have g0:=Kw 0 (by omega)
   obtain ⟨v0,U4⟩:∃v,U3[0]?=some v:=⟨_,List.getElem?_eq_getElem (by omega)⟩
   rw [U4] at g0
   obtain ⟨b,off,spot⟩:=a
   have hs:spot=none:=by simpa [Addr.add] using World.cell?_spot g0
   subst hs
   simp only [add_plain,Nat.zero_mul,Nat.add_zero] at g0
   obtain ⟨b',off',he,C,ty,fz,hb,tI⟩:=Bf g0
   simp only [Addr.mk.injEq,and_true] at he
   obtain ⟨rfl,rfl⟩:=he
   have Sn:off<C.size:=(Array.getElem?_eq_some_iff.1 tI).1
   -- the rows
   have rows:∀i,i<len→∃cs,cs.length=k∧jB W cs E φ∧∀q v,cs[q]?=some v→C[off+i*k+q]?=some v:=fun i hi=>by
    have h2:=U i hi
    rw [List.getElem?_eq_getElem (by omega)] at h2
    obtain ⟨cs,h3,h4⟩:=Option.bind_eq_some_iff.1 h2
    obtain ⟨_,hl,hc⟩:=World.cells?_some h3
    refine ⟨cs,hl,Cw n cs _ h4 ?_,fun q v hq => ?_⟩
    ·have:=kN (l:=elems.map (·.1)) (List.mem_map_of_mem (List.getElem_mem (l:=elems) (n:=i) (by omega)))
     omega
    ·have U5:q<k:=by rw [←hl]; exact (List.getElem?_eq_some_iff.1 hq).1
     have:=hc q U5
     rw [add_plain,add_plain,Db hb,hq] at this
     exact this
   have build:∀m,m≤len→∃I:List (List Value),I.length=m∧(∀cs∈I,jB W cs E φ)∧I.flatten.length=m*k∧∀j v,I.flatten[j]?=some v→C[off+j]?=some v:=by
    intro m
    induction m with
    | zero=>intro _; exact ⟨[],rfl,fun cs h=>(by cases h),by simp,fun j v h=>by simp at h⟩
    | succ m ih =>
     intro hm
     obtain ⟨I,i1,i2,i3,i4⟩:=ih (by omega)
     obtain ⟨cs,r1,r2,r3⟩:=rows m (by omega)
     refine ⟨I++[cs],by simp [i1],fun y hy => ?_,by simp [i3,r1,Nat.add_mul],fun j v hj => ?_⟩
     ·rcases List.mem_append.1 hy with hy | hy
      ·exact i2 y hy
      ·rw [List.mem_singleton.1 hy]; exact r2
     ·rw [List.flatten_append,List.flatten_singleton] at hj
      by_cases bB:j<m*k
      ·rw [List.getElem?_append_left (by rw [i3]; exact bB)] at hj
       exact i4 j v hj
      ·rw [List.getElem?_append_right (by rw [i3]; omega),i3] at hj
       have:=r3 _ v hj
       rwa [show off+m*k+(j-m*k)=off+j by omega] at this
   obtain ⟨I,b1,b2,b3,b4⟩:=build len (Nat.le_refl _)
   have gV:off+I.flatten.length≤C.size:=by
    rw [b3]
    by_cases xo:len*k=0
    ·omega
    ·obtain ⟨v,hv⟩:∃v,I.flatten[len*k-1]?=some v:=⟨_,List.getElem?_eq_getElem (by rw [b3]; omega)⟩
     have:=(Array.getElem?_eq_some_iff.1 (b4 _ v hv)).1
     omega
   have main:=jB.Sm (k:=k) (len:=len) (cap:=cap) hb gV b3 Ky b4 hA (jB.rows hE hA J Du I b2)
   intro c σ S h
   obtain ⟨c1,Jy,vs,x,q1,q2,q3,q4,q5,q6⟩:=main c σ S h
   refine ⟨c1,Jy,vs,x,q1,q2,q3,q4,?_,q6⟩
   have:=Bg (elems.map (·.1))
   rw [List.length_map] at this
   omega
end
end Go.Proofs.YtconhghphklfjaaGreat.Am
namespace Go.Proofs.YtconhghphklfjaaGreat.Am
open Go Go.ChangeShapes Go.WideShapes Go.ChangeAt Go.RowKit
noncomputable def oT (P:Program)(t:TypeId): Array Field:=match P.underlying t with
 | some (.struct I)=>I
 | _ => #[]
def yq (I:Array Field)(i:Nat): Option (TypeId×Nat):=(I[i]?).map fun f=>(f.type,f.offset)
theorem Pz : Tryz.prog.underlying 134=some (.struct (oT Tryz.prog 134)):=by kernel_rfl
theorem PA : Tryz.prog.underlying 62=some (.struct (oT Tryz.prog 62)):=by kernel_rfl
theorem KA : Tryz.prog.cellsOf 134=2:=by kernel_rfl
theorem KB : Tryz.prog.cellsOf 62=4:=by kernel_rfl
theorem Bi : Tryz.prog.cellsOf 3=1:=by kernel_rfl
theorem KC : Tryz.prog.cellsOf 32=1:=by kernel_rfl
theorem PB : Tryz.prog.cellsOf 60=1:=by kernel_rfl
theorem PC : (oT Tryz.prog 134).size=2:=by kernel_rfl
theorem PD : (oT Tryz.prog 62).size=4:=by kernel_rfl
theorem PE : yq (oT Tryz.prog 134) 0=some (3,0):=by kernel_rfl
theorem PF : yq (oT Tryz.prog 134) 1=some (32,1):=by kernel_rfl
theorem PG : yq (oT Tryz.prog 62) 0=some (3,0):=by kernel_rfl
theorem PI : yq (oT Tryz.prog 62) 1=some (3,1):=by kernel_rfl
theorem PJ : yq (oT Tryz.prog 62) 2=some (60,2):=by kernel_rfl
theorem PK : yq (oT Tryz.prog 62) 3=some (32,3):=by kernel_rfl
theorem pK {J:Array Field}{i:Nat}{t:TypeId}{o:Nat}(h:yq J i=some (t,o)): ∃f,J[i]?=some f∧f.type=t∧f.offset=o:=by
 unfold yq at h
 obtain ⟨f,U,I⟩:=Option.map_eq_some_iff.1 h
 simp only [Prod.mk.injEq] at I
 exact ⟨f,U,I.1,I.2⟩
def Ht (vs:List V)(x:Int×List Nat): ah:=.xs fun u:V=>.an (.pu (vs=[.int .i64 x.1,u])) (.bp u x.2)
theorem aq.Ht (vs:List V)(x:Int×List Nat): aq (Am.Ht vs x):=aq.xs fun _=>aq.an (aq.pu _) (aq.bp _ _)
def Hu (vs:List V)(D:ik): ah:=.xs fun w:V=>.xs fun d:V=>.an (.pu (vs=[.int .i64 D.act,.int .i64 D.bX,w,d])) (kf w d D)
theorem aq.Hu (vs:List V)(D:ik): aq (Am.Hu vs D):=aq.xs fun _=>aq.xs fun _=>aq.an (aq.pu _) (aq.kf _ _ _)
theorem KD {α:Type}{l:List α}(h:l.length=2): ∃a b,l=[a,b]:=by
 rcases l with _ | ⟨a,_ | ⟨b,_ | ⟨c,l⟩⟩⟩ <;> simp at h
 exact ⟨a,b,rfl⟩
theorem KE {α:Type}{l:List α}(h:l.length=4): ∃a b c d,l=[a,b,c,d]:=by
 rcases l with _ | ⟨a,_ | ⟨b,_ | ⟨c,_ | ⟨d,_ | ⟨e,l⟩⟩⟩⟩⟩ <;> simp at h
 exact ⟨a,b,c,d,rfl⟩
theorem pL {α β:Type}{f:α→β}{l:List α}{b:β}(h:l.map f=[b]): ∃a,l=[a]∧f a=b:=by
 rcases l with _ | ⟨a,_ | ⟨c,l⟩⟩
 ·cases h
 ·simp at h; exact ⟨a,rfl,h⟩
 ·simp at h
section
variable {H':Type} {enc:TypeId×Value→H'} {W:World} {fuel B:Nat} {cs:List Value} {x:DataW H'×List MemPlace}
theorem L7 (h:DataW.trod enc Tryz.prog W 0 (fun _=>true) true fuel 134 cs=some x)(hB:Rows.uptoBulk x.1≤B): jB W cs Ht (fun y=>y.2.length≤B):=by
 obtain ⟨xs,n,rfl,rfl,hl,hx,hf⟩:=DataW.trod_struct Pz h
 rw [KA] at hl
 rw [PC] at hx
 obtain ⟨f0,a0,b0,c0⟩:=pK PE
 obtain ⟨f1,a1,b1,c1⟩:=pK PF
 have J:=hf 0 f0 a0
 have U:=hf 1 f1 a1
 rw [b0,c0,Bi] at J
 rw [b1,c1,KC] at U
 obtain ⟨v0,v1,rfl⟩:=KD hl
 obtain ⟨y0,I,rfl⟩:=KD hx
 have J:DataW.trod enc Tryz.prog W 0 (fun _=>true) true n 3 [v0]=some y0:=J
 have U:DataW.trod enc Tryz.prog W 0 (fun _=>true) true n 32 [v1]=some I:=U
 obtain ⟨m,hm,_,_⟩:=DataW.trod_int Tryz.underlying3 J
 injection hm with hm _
 subst hm
 have Ow:Rows.uptoBulk I.1≤B:=by
  rw [Bh] at hB
  have:=kN (l:=[y0.1,I.1]) (d:=I.1) (by simp)
  have e:([y0,I].map (·.1))=[y0.1,I.1]:=rfl
  rw [e] at hB
  omega
 intro c σ S hr
 obtain ⟨c',fg,vs,l,r1,r2,r3,r4,r5⟩:=xg U Ow c σ S hr
 obtain ⟨u,rfl,hu⟩:=pL r3
 refine ⟨c',fg,[.int .i64 m,u],(m,l),r1.sat fun h s=>s.dY fun a b k => ?_,r2,by simp [conc,hu],fun v hv => ?_,r5⟩
 ·obtain ⟨u',e,k⟩:=k
  injection e with e _
  subst e
  exact ⟨u,rfl,k⟩
 ·rcases List.mem_cons.1 hv with rfl | hv
  ·exact ⟨trivial,rfl⟩
  ·exact r4 v hv
theorem JA (h:DataW.trod enc Tryz.prog W 0 (fun _=>true) true fuel 60 cs=some x)(I:Rows.uptoBulk x.1≤B): jB W cs (v7 2 jO) (fun xs=>xs.length≤B∧∀y∈xs,y.2.length≤B) :=
 yp (E:=Ht) Tryz.underlying60 KA (by decide) aq.Ht (fun l m=>aq.jO m l) (fun _ _=>trivial) (fun vs x l m a b J U=>by
  obtain ⟨u,e,k⟩:=J
  have e:vs=[.int .i64 x.1,u]:=e
  subst e
  exact ⟨⟨rfl,k⟩,U⟩) (fun n cs y hy hb=>L7 hy hb) h I
theorem L8 (h:DataW.trod enc Tryz.prog W 0 (fun _=>true) true fuel 62 cs=some x)(hB:Rows.uptoBulk x.1≤B): jB W cs Hu (fun D=>D.data.length≤B∧D.w.length≤B∧∀y∈D.w,y.2.length≤B):=by
 obtain ⟨xs,n,rfl,rfl,hl,hx,hf⟩:=DataW.trod_struct PA h
 rw [KB] at hl
 rw [PD] at hx
 obtain ⟨f0,a0,b0,c0⟩:=pK PG
 obtain ⟨f1,a1,b1,c1⟩:=pK PI
 obtain ⟨f2,a2,b2,c2⟩:=pK PJ
 obtain ⟨f3,a3,b3,c3⟩:=pK PK
 have h0:=hf 0 f0 a0
 have h1:=hf 1 f1 a1
 have h2:=hf 2 f2 a2
 have h3:=hf 3 f3 a3
 rw [b0,c0,Bi] at h0
 rw [b1,c1,Bi] at h1
 rw [b2,c2,PB] at h2
 rw [b3,c3,KC] at h3
 obtain ⟨v0,v1,v2,v3,rfl⟩:=KE hl
 obtain ⟨y0,y1,I,J,rfl⟩:=KE hx
 have h0:DataW.trod enc Tryz.prog W 0 (fun _=>true) true n 3 [v0]=some y0:=h0
 have h1:DataW.trod enc Tryz.prog W 0 (fun _=>true) true n 3 [v1]=some y1:=h1
 have h2:DataW.trod enc Tryz.prog W 0 (fun _=>true) true n 60 [v2]=some I:=h2
 have h3:DataW.trod enc Tryz.prog W 0 (fun _=>true) true n 32 [v3]=some J:=h3
 obtain ⟨m0,U,_,_⟩:=DataW.trod_int Tryz.underlying3 h0
 injection U with U _
 subst U
 obtain ⟨m1,qL,_,_⟩:=DataW.trod_int Tryz.underlying3 h1
 injection qL with qL _
 subst qL
 rw [Bh] at hB
 have e:([y0,y1,I,J].map (·.1))=[y0.1,y1.1,I.1,J.1]:=rfl
 rw [e] at hB
 have Ox:Rows.uptoBulk I.1≤B:=by
  have:=kN (l:=[y0.1,y1.1,I.1,J.1]) (d:=I.1) (by simp)
  omega
 have U6:Rows.uptoBulk J.1≤B:=by
  have:=kN (l:=[y0.1,y1.1,I.1,J.1]) (d:=J.1) (by simp)
  omega
 intro c σ S hr
 obtain ⟨c1,Jy,Rf,l,r1,r2,r3,r4,r5⟩:=xg h3 U6 c σ S hr
 obtain ⟨d,rfl,hd⟩:=pL r3
 obtain ⟨c2,Sk,U7,ws,t1,t2,t3,t4,t5⟩:=JA h2 Ox c1 Jy _ r1
 obtain ⟨w,rfl,hw⟩:=pL t3
 obtain ⟨q1,q2⟩:=bG t2 d (r4 d (by simp)).1
 refine ⟨c2,Sk,[.int .i64 m0,.int .i64 m1,w,d],⟨m0,m1,ws,l⟩,t1.sat fun h s=>s.two (aq.v7 (fun l m=>aq.jO m l) _ _) (aq.Kx _ _) fun a b k1 k2 => ?_,r2.trans t2,by simp [conc,hw,q1,hd],fun v hv => ?_,r5,t5⟩
 ·obtain ⟨w',cs,e1,k1⟩:=k1
  obtain ⟨d',e2,k2⟩:=k2
  have e1:[w]=[w']:=e1
  have e2:[d]=[d']:=e2
  injection e1 with e1 _
  injection e2 with e2 _
  subst e1
  subst e2
  exact ⟨w,d,rfl,⟨cs,k1⟩,k2⟩
 ·simp only [List.mem_cons,List.not_mem_nil,or_false] at hv
  rcases hv with rfl | rfl | rfl | rfl
  ·exact ⟨trivial,rfl⟩
  ·exact ⟨trivial,rfl⟩
  ·exact t4 _ (by simp)
  ·exact ⟨q2,(r4 _ (by simp)).2⟩
theorem JB (h:DataW.trod enc Tryz.prog W 0 (fun _=>true) true fuel 56 cs=some x)(I:Rows.uptoBulk x.1≤B): jB W cs (v7 4 fZ) (fun xs=>xs.length≤B∧∀D∈xs,D.data.length≤B∧D.w.length≤B∧∀y∈D.w,y.2.length≤B) :=
 yp (E:=Hu) Tryz.underlying56 KB (by decide) aq.Hu (fun l m=>aq.fZ m l) (fun _ _=>trivial) (fun vs x l m a b J U=>by
  obtain ⟨w,d,e,k⟩:=J
  have e:vs=[.int .i64 x.act,.int .i64 x.bX,w,d]:=e
  subst e
  exact ⟨⟨⟨rfl,rfl⟩,k⟩,U⟩) (fun n cs y hy hb=>L8 hy hb) h I
end
end Go.Proofs.YtconhghphklfjaaGreat.Am
