/- ChainFull: a part of its proof; conditions: its statement's. -/
import Derived.Test.YtefepnnfphdkpaaGreatD35
import Derived.Test.YtefepnnfphdkpaaGreatD24
import Derived.Test.YtefepnnfphdkpaaGreatD28
import Derived.WalkKit
import Derived.ProofKit
import Derived.OpenShut
import Derived.ChangeSlices
import Derived.Test.YtefepnnfphdkpaaGreatRows
import Derived.Test.YtefepnnfphdkpaaGreatD34
import Derived.JoinedCond
import Derived.ChangeBook
import Derived.ChangeStays
namespace Go.Proofs.YtefepnnfphdkpaaGreat.Am
open Go
section
variable {told:cz} {h:H} {S:List aq} {AV:V} {zs:List Int} {f:Nat}
theorem Sat.Ta (s:Sat h S): Sat h (.arr 2 .bn []::kG [] []::S):=(Sat.gy (φ:=True) s aa).mB
end
section
variable {told:cz} {h:H} {S:List aq} {AV:V} {zs:List Int} {n0:Int}
theorem NK (I:WC told)(J:zs.length≤1048576)(s:Sat h (yR 1 AV (u5 zs)::S)): Call ⟨Tryz.prog,told⟩ 7 [.int .i64 n0,AV] h fun v h'=>v=.bool true:=by
 have hW:=I.w
 obtain ⟨k,hk,Y5⟩:=NI (k:=n0) (m:=31) (by decide)
 have OS:(u5 zs).length=zs.length*1:=by rw [Ht,cC]
 refine Call.of_wp (hW.free _ rfl) Tryz.func7 rfl rfl (zK 7 rfl (zc rfl (Ja I s) ?_))
 rintro v h ⟨rfl,s⟩
 refine zo rfl (eY rfl rfl) (zk 6 rfl (zo rfl (ag (r:=.int .i64 (k:Int)) rfl rfl Y5) ?_))
 obtain ⟨N,hN⟩:∃N,N=10+k:=⟨_,rfl⟩
 have Y6:(N:Int)=10+(k:Int):=by omega
 refine zo rfl (ag (r:=.int .i64 (N:Int)) rfl rfl (by rw [Y6]; exact bp (aA (by omega) (by omega)))) ?_
 refine zc rfl (uY (n:=N) (m:=1048576) (f:=24) I.ws (by omega) (by omega) (by decide) (by omega) (by decide) (by decide) s) ?_
 rintro v h ⟨p,a,q,r,ε,rfl,eB,hp,hd,s⟩
 refine zk 6 rfl (zh rfl (ag rfl rfl (r_ nP)) (rfl) (zk 2 rfl (zo rfl (aO rfl rfl rfl (s.K4 (n:=zs.length) (j:=1) rfl OS (by decide) bO)) ?_)))
 by_cases hz:zs.length=0
 ·skip
  refine zt rfl (ag rfl rfl e_) (decide_eq_true (by omega)) ?_
  refine zk 6 rfl (zt rfl (ag rfl rfl (T0 nP)) (rfl) (zk 2 rfl (WP.ret ⟨aa,_,rfl,?_⟩)))
  rfl
 ·skip
  refine zh rfl (ag rfl rfl e_) (decide_eq_false (by omega)) ?_
  refine zk 13 rfl (WP.block ?_)
  have s:=s.Ta
  refine WL I J (by omega) (by omega) (by omega) rfl 42 0 .bn [] [] [] ε pq _ _ _ (by decide) eB hp iO.nil (fun j _=>by rw [EU]; simp) rfl (by rw [dA,tc]; exact hd) s ⟨rfl,rfl,rfl,rfl,aa⟩ (fun E' h' hq => ?_)
  exact ⟨aa,_,BE hq,rfl⟩
end
def Fa (c:Ctx): Prop:=∀id,id<c.N→c.X id=true
noncomputable def Ctx.fix (c:Ctx)(w:World)(b off:Nat): Ctx:=⟨fun i=>if i=c.N then (b,off) else c.ρ i,fun x=>if x=b then rowSize w b else c.Z x,c.N+1,fun i=>if i=c.N then true else c.X i⟩
theorem Rel.fix {c:Ctx}{σ:H}{w:World}(h:Rel c σ w)(hX:Fa c){b off:Nat}{cs:List V}{C:Array Value}{e:TypeId}{fz:Nat×Nat}(hb:w.heap[b]?=some (.cells C e fz))(hl:off+cs.length≤C.size)
 (hc:∀j v,cs[j]?=some v→C[off+j]?=some (conc c v))(hG:∀v∈cs,wf c v∧storable v=true):
  Rel (c.fix w b off) (σ.new (.cells cs.length cs true)) w∧Fa (c.fix w b off)∧Ext c (c.fix w b off)∧(c.fix w b off).ρ σ.next=(b,off)∧σ.next<(c.fix w b off).N:=by
 have hold:∀i,i<c.N→(c.fix w b off).ρ i=c.ρ i:=fun i hi=>by simp [Ctx.fix,fJ hi]
 have zE:∀i,i<c.N→(c.fix w b off).X i=c.X i:=fun i hi=>by simp [Ctx.fix,fJ hi]
 have I:(c.fix w b off).ρ c.N=(b,off):=by simp [Ctx.fix]
 have Y7:(c.fix w b off).X c.N=true:=by simp [Ctx.fix]
 have hN:(c.fix w b off).N=c.N+1:=rfl
 have aY:b<w.heap.size:=(Array.getElem?_eq_some_iff.1 hb).1
 have lC:Fa (c.fix w b off):=fun i hi=>by
  by_cases J:i=c.N
  ·rw [J]; exact Y7
  ·rw [zE i (by rw [hN] at hi; omega)]; exact hX i (by rw [hN] at hi; omega)
 have ex:Ext c (c.fix w b off):=⟨by rw [hN]; omega,hold,fun i hi=>by
  show (if (c.ρ i).1=b then rowSize w b else c.Z (c.ρ i).1)=_
  split
  ·rename_i he; rw [h.zz i hi,he]
  ·rfl,zE⟩
 have key:∀i o,(σ.new (.cells cs.length cs true)).tr.get i=some o→(i=c.N∧o=.cells cs.length cs true)∨(i<c.N∧σ.tr.get i=some o):=by
  intro i o hi
  rw [gh,h.next] at hi
  by_cases J:i=c.N
  ·simp [J] at hi; exact .inl ⟨J,hi.symm⟩
  ·simp [J] at hi; exact .inr ⟨h.live i o hi,hi⟩
 refine ⟨⟨by simp [H.new,h.next,hN],fun i o hi => ?_,fun i hi => ?_,fun i hi => ?_,fun i j o o' hi hj he => ?_,fun i o hi => ?_,fun i m6 kz hi hx => ?_,fun i o hi hx => ?_⟩,lC,ex,by rw [h.next]; exact I,by rw [h.next,hN]; omega⟩
 ·rw [hN]; rcases key i o hi with ⟨J,_⟩ | ⟨J,_⟩ <;> omega
 ·rw [hN] at hi
  by_cases J:i=c.N
  ·rw [J,I]; exact aY
  ·rw [hold i (by omega)]; exact h.jr i (by omega)
 ·rw [hN] at hi
  by_cases J:i=c.N
  ·rw [J,I]; show (if b=b then rowSize w b else c.Z b)=_; rw [ax rfl]
  ·rw [hold i (by omega)]
   show (if (c.ρ i).1=b then rowSize w b else c.Z (c.ρ i).1)=_
   split
   ·rename_i he; rw [he]
   ·exact h.zz i (by omega)
 ·have li:i<c.N+1:=by rcases key i o hi with ⟨J,_⟩ | ⟨J,_⟩ <;> omega
  have lj:j<c.N+1:=by rcases key j o' hj with ⟨J,_⟩ | ⟨J,_⟩ <;> omega
  exact .inr ⟨lC i (by rw [hN]; exact li),lC j (by rw [hN]; exact lj)⟩
 ·rcases key i o hi with ⟨rfl,rfl⟩ | ⟨a1,a2⟩
  ·refine ⟨rfl,fun v hv=>⟨(bM ex v (hG v hv).1).2,(hG v hv).2⟩,C,e,fz,by rw [I]; exact hb,by rw [I]; exact hl,fun j v hj => ?_,aa⟩
   rw [I,(bM ex v (hG v (aV hj)).1).1]
   exact hc j v hj
  ·exact (h.obj i o a2).later ex a1 rfl
 ·have li:i<c.N+1:=by rcases key i _ hi with ⟨J,_⟩ | ⟨J,_⟩ <;> omega
  rw [lC i (by rw [hN]; exact li)] at hx; cases hx
 ·rcases key i o hi with ⟨_,rfl⟩ | ⟨a1,a2⟩
  ·exact ⟨_,_,rfl⟩
  ·rw [zE i a1] at hx; exact h.fx i o a2 hx
theorem F0 {c c':Ctx}{w w':World}(hX:Fa c)(h:b7 c w c' w'): w.keptBut w' (fun _=>False)∧w.heap.size≤w'.heap.size∧∀b,b<w.heap.size→w'.heap[b]?=w.heap[b]?:=by
 have J:∀b,b<w.heap.size→w'.heap[b]?=w.heap[b]?:=fun b hb=>h.kU b hb fun id I _=>hX id I
 refine ⟨⟨h.sys.1,h.sys.2,fun i hi => ?_⟩,h.size,J⟩
 rw [J i hi]
 split <;> simp_all
end Go.Proofs.YtefepnnfphdkpaaGreat.Am
namespace Go.Proofs.YtefepnnfphdkpaaGreat.Am
open Go Go.ChangeShapes
def wH (W:World)(S:List aq)(c:Ctx)(σ:H): Prop:=Rel c σ W∧Fa c∧Sat σ S
theorem wH.zero (W:World): ∃c σ,wH W [] c σ:=by
 refine ⟨_,_,Rel.empty W,fun id h=>absurd h (Be _),⟨fun id o h=>by simp [T.iJ] at h,fun _=>none,fun _=>none,fun _ _ h=>(by cases h),fun _ _ h=>(by cases h),fun _=>.inl rfl,aa⟩⟩
theorem wH.sat {W:World}{S S':List aq}{c:Ctx}{σ:H}(h:wH W S c σ)(hs:∀h,Sat h S→Sat h S'): wH W S' c σ:=⟨h.1,h.2.1,hs σ h.2.2⟩
def nR {α:Type}(W:World)(cs:List Value)(E:List V→α→aq)(φ:α→Prop): Prop :=
 ∀(c:Ctx) (σ:H) (S:List aq),wH W S c σ→∃(c':Ctx) (I:H) (J:List V) (x:α),wH W (E J x::S) c' I∧Ext c c'∧J.map (conc c')=cs∧(∀v∈J,wf c' v∧storable v=true)∧φ x
theorem nR.rows {W:World}{α:Type}{E:List V→α→aq}{A:List V→List α→aq}{φ:α→Prop}(hE:∀vs x,aQ (E vs x))(hA:∀l m,aQ (A l m))(yz:∀m r,(A [] []).p m r)(J:∀vs x l m a b,(E vs x).p a b→(A l m).p a b→(A (vs++l) (x::m)).p a b):
  ∀(I:List (List Value)),(∀cs∈I,nR W cs E φ)→nR W I.flatten A (fun xs=>xs.length=I.length∧∀x∈xs,φ x):=by
 intro I
 induction I with
 | nil =>
  intro _ c σ S h
  exact ⟨c,σ,[],[],h.sat fun h s=>(s.gy (φ:=True) aa).hU fun m r _=>yz m r,Ext.refl c,rfl,fun v hv=>(by cases hv),rfl,fun x hx=>(by cases hx)⟩
 | cons cs I ih =>
  intro hc c σ S h
  obtain ⟨c1,WM,l,m,h1,e1,m1,w1,n1,p1⟩:=ih (fun x hx=>hc x (cr _ hx)) c σ S h
  obtain ⟨c2,ZI,vs,x,h2,e2,m2,w2,p2⟩:=hc cs ct c1 WM _ h1
  obtain ⟨q1,q2⟩:=j8 e2 fun v hv=>(w1 v hv).1
  refine ⟨c2,ZI,vs++l,x::m,h2.sat fun h s=>s.two (hE _ _) (hA _ _) fun a b k1 k2=>J _ _ _ _ _ _ k1 k2,e1.trans e2,?_,fun v hv => ?_,by simp [n1],fun y hy => ?_⟩
  ·rw [wS,m2,q1,m1,kP]
  ·rcases List.mem_append.1 hv with hv | hv
   ·exact w2 v hv
   ·exact ⟨q2 v hv,(w1 v hv).2⟩
  ·rcases List.mem_cons.1 hy with rfl | hy
   ·exact p2
   ·exact p1 y hy
def LL {α:Type}(k:Nat)(A:List V→List α→aq)(I:List V)(x:List α): aq:=.xs fun v:V=>.xs fun cs:List V=>.an (.pu (I=[v])) (.an (yR k v cs) (A cs x))
theorem nR.WN {W:World}{α:Type}{k:Nat}{A:List V→List α→aq}{φ:List α→Prop}(I:∀m r,(A [] []).p m r)(J:φ []): nR W [.slice none 0 0] (LL k A) φ:=fun c σ S h =>
 ⟨c,σ,[.bn],[],h.sat fun h s=>(s.gy (φ:=True) aa).hU fun m r _=>⟨.bn,[],rfl,⟨none,.inl rfl,rfl⟩,I m r⟩,Ext.refl c,by simp [conc],fun v hv=>by rw [List.mem_singleton.1 hv]; exact ⟨aa,rfl⟩,J⟩
theorem nR.Tb {W:World}{α:Type}{k:Nat}{A:List V→List α→aq}{φ:List α→Prop}{a:Addr}(I:∀m r,(A [] []).p m r)(J:φ []): nR W [.slice (some a) 0 0] (LL k A) φ:=fun c σ S h =>
 ⟨c,σ,[.sle a],[],h.sat fun h s=>(s.gy (φ:=True) aa).hU fun m r _=>⟨.sle a,[],rfl,⟨none,.inr ⟨a,rfl⟩,rfl⟩,I m r⟩,Ext.refl c,by simp [conc],fun v hv=>by rw [List.mem_singleton.1 hv]; exact ⟨aa,rfl⟩,J⟩
theorem nR.WO {W:World}{α:Type}{k b off len cap:Nat}{A:List V→List α→aq}{φ:List α→Prop}{cs:List Value}{C:Array Value}{e:TypeId}{fz:Nat×Nat}(hb:W.heap[b]?=some (.cells C e fz))(hl:off+cs.length≤C.size)(hn:cs.length=len*k)(ud:len≤cap)
 (hc:∀j v,cs[j]?=some v→C[off+j]?=some v)(hA:∀l m,aQ (A l m))(ho:nR W cs A φ): nR W [.slice (some ⟨b,off,none⟩) len cap] (LL k A) φ:=by
 intro c σ S h
 obtain ⟨c1,I,J,x,h1,e1,m1,w1,p1⟩:=ho c σ S h
 have hlen:J.length=cs.length:=by rw [←m1,er]
 obtain ⟨g1,g2,g3,g4,g5⟩:=h1.1.fix h1.2.1 hb (cs:=J) (off:=off) (by omega) (fun j v hv=>hc j _ (by rw [←m1,gI,hv]; rfl)) w1
 refine ⟨_,_,[.sl I.next 0 len (.exact cap)],x,⟨g1,g2,?_⟩,e1.trans g3,?_,fun v hv => ?_,p1⟩
 ·have s1:Sat (I.new (.cells J.length J true)) (.ro I.next (.cells J.length J true)::A J x::S):=(h1.2.2.new _).freeze
  refine s1.two (aQ.ro _ _) (hA _ _) fun m r k1 k2=>⟨_,J,rfl,⟨some (I.next,len,cap),k1,rfl,by rw [hlen,hn]⟩,k2⟩
 ·simp [conc,g4]
 ·rw [List.mem_singleton.1 hv]
  exact ⟨⟨g5,ud⟩,rfl⟩
theorem NL {W:World}{a:Addr}{v:Value}(h:W.cell? a=some v): ∃b off,a=⟨b,off,none⟩∧∃C e I,W.heap[b]?=some (.cells C e I)∧C[off]?=some v:=by
 obtain ⟨b,off,spot⟩:=a
 have hs:spot=none:=World.cell?_spot h
 subst hs
 refine ⟨b,off,rfl,?_⟩
 unfold World.cell? at h
 split at h
 ·rename_i C e I J
  exact ⟨C,e,I,J,by simpa using h⟩
 ·cases h
theorem Qw {α β:Type}{f:α→β}{l:List α}{b:β}(h:l.map f=[b]): ∃a,l=[a]∧f a=b:=by
 rcases l with _ | ⟨a,_ | ⟨c,l⟩⟩
 ·cases h
 ·simp at h; exact ⟨a,rfl,h⟩
 ·simp at h
end Go.Proofs.YtefepnnfphdkpaaGreat.Am
namespace Go.Proofs.YtefepnnfphdkpaaGreat.Am
open Go Go.ChangeShapes Go.WideShapes Go.ChangeAt Go.RowKit
theorem NM {H:Type}(d:DataW H): 1≤Rows.uptoBulk d:=by
 cases d with
 | lit l=>cases l <;> simp [Rows.uptoBulk]
 | nil=>simp [Rows.uptoBulk]
 | ptr d=>simp [Rows.uptoBulk]
 | slice elems spare=>simp [Rows.uptoBulk]
 | agg parts=>simp [Rows.uptoBulk]
 | iface t d=>simp [Rows.uptoBulk]
 | map entries=>simp [Rows.uptoBulk]
 | held h=>simp [Rows.uptoBulk]
theorem CM {H:Type}{d:DataW H}: ∀ {l:List (DataW H)},d∈l→Rows.uptoBulk d≤Rows.uptoBulkAll l:=by
 intro l
 induction l with
 | nil=>intro h; cases h
 | cons x r I =>
  intro h
  simp only [Rows.uptoBulkAll]
  rcases List.mem_cons.1 h with e | e
  ·subst e; omega
  ·have:=I e; omega
theorem NN {H:Type}: ∀(l:List (DataW H)),l.length≤Rows.uptoBulkAll l:=by
 intro l
 induction l with
 | nil=>exact fh _
 | cons x r I=>have:=NM x; simp only [Rows.uptoBulkAll,aN]; omega
theorem Jd {H:Type}(a b:List (DataW H)): Rows.uptoBulk (.slice a b)=Rows.uptoBulkAll a+Rows.uptoBulkAll b+1:=by simp only [Rows.uptoBulk]
theorem Qx {W:World}{b o:Nat}{C:Array Value}{e:TypeId}{I:Nat×Nat}(J:W.heap[b]?=some (.cells C e I)): W.cell? ⟨b,o,none⟩=C[o]?:=by
 unfold World.cell?
 simp only [J]
 rfl
section
variable {H':Type} {enc:TypeId×Value→H'} {W:World} {fuel B:Nat} {cs:List Value} {x:DataW H'×List MemPlace}
theorem LM {α:Type}{t e:TypeId}{k:Nat}{E:List V→α→aq}{A:List V→List α→aq}{φ:α→Prop}(ht:Tryz.prog.underlying t=some (.slice e))(hk:Tryz.prog.cellsOf e=k)(h1:1≤k)
 (hE:∀vs x,aQ (E vs x))(hA:∀l m,aQ (A l m))(J:∀m r,(A [] []).p m r)(HJ:∀vs x l m a b,(E vs x).p a b→(A l m).p a b→(A (vs++l) (x::m)).p a b)
 (Gn:∀n cs (y:DataW H'×List MemPlace),DataW.trod enc Tryz.prog W 0 (fun _=>true) true n e cs=some y→Rows.uptoBulk y.1≤B→nR W cs E φ)
 (h:DataW.trod enc Tryz.prog W 0 (fun _=>true) true fuel t cs=some x)(hB:Rows.uptoBulk x.1≤B): nR W cs (LL k A) (fun xs=>xs.length≤B∧∀x∈xs,φ x):=by
 rcases DataW.trod_slice ht h with ⟨rfl,rfl⟩ | ⟨a,len,cap,elems,rest,n,_,rfl,rfl,_,Sv,_,hlen,NO,Ev,_⟩
 ·exact nR.WN J ⟨fh _,fun x hx=>(by cases hx)⟩
 ·obtain ⟨XV,OZ⟩:=Ev rfl
  rw [hk] at NO OZ
  rw [Jd] at hB
  by_cases h0:cap=0
  ·have:len=0:=by omega
   subst this
   subst h0
   exact nR.Tb J ⟨fh _,fun x hx=>(by cases hx)⟩
  ·-- each element's cells
   have each:∀i,i<cap→∃cs,W.cells? 0 (a.add (i*k)) k=some cs:=fun i hi=>by
    by_cases DU:i<len
    ·have h2:=NO i DU
     rw [aM (by omega)] at h2
     obtain ⟨cs,h3,_⟩:=Option.bind_eq_some_iff.1 h2
     exact ⟨cs,h3⟩
    ·have h2:=OZ (i-len) (by omega)
     rw [aM (by omega),show len+(i-len)=i by omega] at h2
     obtain ⟨cs,h3,_⟩:=Option.bind_eq_some_iff.1 h2
     exact ⟨cs,h3⟩
   obtain ⟨Y8,WQ⟩:=each 0 (by omega)
   obtain ⟨_,vn,Vs⟩:=World.cells?_some WQ
   have g0:=Vs 0 (by omega)
   obtain ⟨v0,Y9⟩:∃v,Y8[0]?=some v:=⟨_,aM (by omega)⟩
   rw [Y9] at g0
   obtain ⟨b,off,spot⟩:=a
   have hs:spot=none:=by simpa [Addr.add] using World.cell?_spot g0
   subst hs
   simp only [add_plain,qy,iC] at g0
   obtain ⟨b',off',he,C,ty,fz,hb,tA⟩:=NL g0
   simp only [Addr.mk.injEq,and_true] at he
   obtain ⟨rfl,rfl⟩:=he
   have ZJ:off<C.size:=(Array.getElem?_eq_some_iff.1 tA).1
   -- the rows
   have rows:∀i,i<len→∃cs,cs.length=k∧nR W cs E φ∧∀q v,cs[q]?=some v→C[off+i*k+q]?=some v:=fun i hi=>by
    have h2:=NO i hi
    rw [aM (by omega)] at h2
    obtain ⟨cs,h3,h4⟩:=Option.bind_eq_some_iff.1 h2
    obtain ⟨_,hl,hc⟩:=World.cells?_some h3
    refine ⟨cs,hl,Gn n cs _ h4 ?_,fun q v hq => ?_⟩
    ·have:=CM (l:=elems.map (·.1)) (List.mem_map_of_mem (qq (l:=elems) (n:=i) (by omega)))
     omega
    ·have Y_:q<k:=by rw [←hl]; exact (List.getElem?_eq_some_iff.1 hq).1
     have:=hc q Y_
     rw [add_plain,add_plain,Qx hb,hq] at this
     exact this
   have build:∀m,m≤len→∃I:List (List Value),I.length=m∧(∀cs∈I,nR W cs E φ)∧I.flatten.length=m*k∧∀j v,I.flatten[j]?=some v→C[off+j]?=some v:=by
    intro m
    induction m with
    | zero=>intro _; exact ⟨[],rfl,fun cs h=>(by cases h),by simp,fun j v h=>by simp at h⟩
    | succ m ih =>
     intro hm
     obtain ⟨I,i1,i2,i3,i4⟩:=ih (by omega)
     obtain ⟨cs,r1,r2,r3⟩:=rows m (by omega)
     refine ⟨I++[cs],by simp [i1],fun y hy => ?_,by simp [i3,r1,gM],fun j v hj => ?_⟩
     ·rcases List.mem_append.1 hy with hy | hy
      ·exact i2 y hy
      ·rw [List.mem_singleton.1 hy]; exact r2
     ·rw [sM,List.flatten_singleton] at hj
      by_cases aY:j<m*k
      ·rw [gF (by rw [i3]; exact aY)] at hj
       exact i4 j v hj
      ·rw [jv (by rw [i3]; omega),i3] at hj
       have:=r3 _ v hj
       rwa [show off+m*k+(j-m*k)=off+j by omega] at this
   obtain ⟨I,b1,b2,b3,b4⟩:=build len (aD _)
   have eS:off+I.flatten.length≤C.size:=by
    rw [b3]
    by_cases vn:len*k=0
    ·omega
    ·obtain ⟨v,hv⟩:∃v,I.flatten[len*k-1]?=some v:=⟨_,aM (by rw [b3]; omega)⟩
     have:=(Array.getElem?_eq_some_iff.1 (b4 _ v hv)).1
     omega
   have main:=nR.WO (k:=k) (len:=len) (cap:=cap) hb eS b3 Sv b4 hA (nR.rows hE hA J HJ I b2)
   intro c σ S h
   obtain ⟨c1,WM,vs,x,q1,q2,q3,q4,q5,q6⟩:=main c σ S h
   refine ⟨c1,WM,vs,x,q1,q2,q3,q4,?_,q6⟩
   have:=NN (elems.map (·.1))
   rw [er] at this
   omega
end
end Go.Proofs.YtefepnnfphdkpaaGreat.Am
namespace Go.Proofs.YtefepnnfphdkpaaGreat.Am
open Go
noncomputable def C9 (f:Nat): Option (List V→H→Option (V×H)) :=
 cond (Nat.beq f 31) (some (lM Tryz.prog 31 (ES 31))) (cond (Nat.beq f 50) (some (lM Tryz.prog 50 (I6 50))) (mH f))
noncomputable abbrev CC : b9:=⟨Tryz.prog,C9⟩
theorem NP : WC C9:=by
 refine ⟨⟨fun f I => ?_,rfl,rfl⟩,rfl,rfl⟩
 have J:f≠31:=fun e=>by subst e; revert I; decide
 have h2:f≠50:=fun e=>by subst e; revert I; decide
 simp only [C9,cV J,cV h2,ay]
 exact W.base.free f I
theorem Fb : fA CC:=by
 intro f g I
 simp only [CC,C9] at I ⊢
 by_cases J:f=31
 ·subst J
  rw [gT rfl,af] at I
  simp only [aj] at I
  subst I
  exact Cs ⟨_,ET,rfl,by decide⟩
 ·rw [cV J,ay] at I
  by_cases h2:f=50
  ·subst h2
   rw [gT rfl,af] at I
   simp only [aj] at I
   subst I
   exact Cs ⟨_,EY,rfl,by decide⟩
  ·rw [cV h2,ay] at I
   exact yJ f g I
theorem iM.Za {f:FuncId}{args:List V}{h h':H}{v:V}(hd:iM CC f args h v h'){c:Ctx}{w:World}(I:Rel c h w)(hw:∀x∈args,wf c x): gw Tryz.prog f args c w v h':=by
 obtain ⟨N,J⟩:=hd
 exact (ou (C:=CC) (zX AI Fb N).1 Fb J I hw).1
end Go.Proofs.YtefepnnfphdkpaaGreat.Am
namespace Go.Proofs.YtefepnnfphdkpaaGreat.Am
open Go Go.ChangeShapes Go.WideShapes Go.ChangeAt Go.RowKit
theorem Qy : Tryz.prog.cellsOf 3=1:=by kernel_rfl
def Zb (I:List V)(x:Int): aq:=.pu (I=[.int .i64 x])
def WR (l:List V)(m:List Int): aq:=.pu (l=u5 m)
theorem Qz {H':Type}{enc:TypeId×Value→H'}{W:World}{fuel B:Nat}{cs:List Value}{x:DataW H'×List MemPlace}(h:DataW.trod enc Tryz.prog W 0 (fun _=>true) true fuel 33 cs=some x)(hB:Rows.uptoBulk x.1≤B): nR W cs (LL 1 WR) (fun xs=>xs.length≤B∧∀y∈xs,True) :=
 LM (E:=Zb) bO Qy (by decide) (fun _ _=>aQ.pu _) (fun _ _=>aQ.pu _) (fun _ _=>rfl) (fun vs x l m a b I J=>by
  have I:vs=[.int .i64 x]:=I
  have J:l=u5 m:=J
  subst I
  subst J
  exact (rfl:_=u5 (x::m))) (fun n cs y hy hb=>by
  obtain ⟨m,hm,_,_⟩:=DataW.trod_int bR hy
  subst hm
  exact fun c σ S hr=>⟨c,σ,[.int .i64 m],m,hr.sat fun h s=>(s.gy (φ:=True) aa).hU fun a b k=>rfl,Ext.refl c,by simp [conc],fun v hv=>by rw [List.mem_singleton.1 hv]; exact ⟨aa,rfl⟩,aa⟩) h hB
end Go.Proofs.YtefepnnfphdkpaaGreat.Am
namespace Go.Proofs.YtefepnnfphdkpaaGreat.Am
open Go Go.ChangeShapes Go.WideShapes Go.ChangeAt Go.RowKit
theorem Je {H':Type}{enc:TypeId×Value→H'}{W:World}{fuel:Nat}{x:DataW H'×List MemPlace}{n:Int}{v:Value}(h:DataW.trod enc Tryz.prog W 0 (fun _=>true) true fuel 33 [v]=some x)(hB:Rows.uptoBulk x.1≤1048576):
  Calls Tryz.prog 7 #[.int .i64 n,v] W fun e w'=>e=.returned (.bool true)∧W.keptBut w' (fun _=>False)∧W.heap.size≤w'.heap.size∧∀b,b<W.heap.size→w'.heap[b]?=W.heap[b]?:=by
 obtain ⟨c0,J,h0⟩:=wH.zero W
 obtain ⟨c,σ,vs,l,hr,_,hm,hG,hl⟩:=Qz h hB c0 J [] h0
 obtain ⟨dv,rfl,Zc⟩:=Qw hm
 obtain ⟨Zd,s⟩:=kj.1 hr.2.2
 obtain ⟨cs,s⟩:=kj.1 s
 have s0:=s
 obtain ⟨_,_,_,_,hk⟩:=s0.at (k:=0) rfl
 have e:[dv]=[Zd]:=hk.1
 injection e with e _
 subst e
 have ec:cs=u5 l:=hk.2.2
 subst ec
 have s1:=s.hU (B:=yR 1 dv (u5 l)) fun _ _ k=>k.2.1
 obtain ⟨v',h',JU,rfl⟩:=NK NP (n0:=n) hl.1 s1
 have I:=JU.Za hr.1 (fun x hx=>by
  rcases List.mem_cons.1 hx with rfl | hx
  ·exact aa
  ·rw [List.mem_singleton.1 hx]; exact (hG _ (by simp)).1)
 unfold gw at I
 have ea:(([V.int .i64 n,dv].map (conc c)).toArray) = #[.int .i64 n,v]:=by simp [conc,Zc]
 rw [ea] at I
 refine Calls.mono I ?_
 rintro e w' ⟨c',rfl,_,_,hs⟩
 obtain ⟨k1,k2,k3⟩:=F0 hr.2.1 hs
 exact ⟨by simp [conc],k1,k2,k3⟩
end Go.Proofs.YtefepnnfphdkpaaGreat.Am
namespace Go.Proofs.YtefepnnfphdkpaaGreat.ChainFull
open Go.ChangeShapes Go.WideShapes Go.ChangeAt Go.RowKit
theorem own : ownKnob Tryz.prog.godebug=none:=by kernel_rfl
theorem laid : laidOutB Tryz.prog=true:=by kernel_rfl
theorem Tc : Tryz.prog.readableRec 33=true:=by kernel_rfl
theorem row : (33:TypeId)<Tryz.prog.types.size:=of_decide_eq_true (by kernel_rfl)
set_option maxRecDepth 100000 in
theorem NQ (H:Type)(enc:TypeId×Value→H)(W:World)(base:Nat)(args:Array Value)(ds gs:List (DataW H))(before:List MemPlace)
 (I:∀(j:Nat) t v,Tryz.f7.params[j]?=some t→args[j]?=some v→Value.okWide Tryz.prog W .any base t v)
 (hW:DataW.Whole enc Tryz.prog Tryz.f7.params.toList Rows.chainFullSpec.vars false W args.toList ds gs before)(hk:Rows.uptoBulkAll (ds++gs)≤1048576):
  Calls Tryz.prog 7 args W fun e W'=>∃v,e=.returned v∧Rows.chainFullSpec.post enc Tryz.prog Tryz.f7 false true false false W args v W':=by
 have Vu:=hW
 obtain ⟨p,q,Ze,hV,rfl,tu,jU⟩:=hW
 have hA:DataW.TrodAll enc Tryz.prog W 0 (fun _=>true) true Tryz.f7.params.toList args.toList ds p:=Ze
 rw [Tryz.params7] at hA I
 obtain ⟨v0,vs0,d0,ds0,p0,q0,xD,rfl,rfl,h0,r0⟩:=trodAll_cons hA
 obtain ⟨v1,vs1,d1,ds1,p1,q1,rfl,rfl,rfl,h1,r1⟩:=trodAll_cons r0
 obtain ⟨rfl,rfl,rfl⟩:=trodAll_nil r1
 obtain rfl:args = #[v0,v1]:=by cases args; simp_all
 obtain ⟨rfl,rfl⟩:=trodVars_none hV
 obtain ⟨a0,rfl,rfl,rfl,w0⟩:=open_int Tryz.underlying3 (I 0 3 v0 rfl rfl) h0
 obtain ⟨fuel,h1⟩:=h1
 have rM:v1.cells.toList=[v1]:=by
  have:=I 1 33 v1 rfl rfl
  simp only [Value.okWide,Tryz.underlying33,Cell.okWide,Cell.ok] at this
  split at this <;> first | rfl | exact this.elim
 have Zf:=h1
 rw [rM] at h1
 have hb:Rows.uptoBulk d1≤1048576:=by
  have:=Am.CM (l:=([DataW.lit (Lit.int .i64 a0),d1]++([]:List (DataW H)))) (d:=d1) (by simp)
  exact Nat.le_trans this hk
 refine (Am.Je (n:=a0) h1 hb).mono fun e W' ⟨he,hg,hs,J⟩ => ?_
 subst he
 have aY:∀x∈p1,x.block<W.heap.size:=fun x hx=>Vu.lt x (by simp [hx])
 have xh:DataW.trod enc Tryz.prog W' 0 (fun b=>decide (b<W.heap.size)) true fuel 33 v1.cells.toList=some (d1,p1) :=
  DataW.trod_stays (kids_book laid Tc) (book_sized Tc) (fun h=>by cases h) ⟨row,book_self _⟩ Zf (fun x hx=>by
   have hl:=aY x hx
   cases x with
   | cell b off =>
    show W'.cell? ⟨b,off,none⟩=W.cell? ⟨b,off,none⟩
    unfold World.cell?
    rw [J b hl]
   | map b=>exact J b hl) (fun x hx=>by simpa using aY x hx)
 exact ⟨_,rfl,⟨_,[],_,[],_,[],Vu,trodAll_cons_mk (shut_bool Tryz.underlying4 _) trodAll_mk0,trodAll_cons_mk (shut_int Tryz.underlying3 w0) (trodAll_cons_mk ⟨fuel,xh⟩ trodAll_mk0),rfl,World.keptBut_mono (fun _ f=>f.elim) hg,fun h=>by cases h⟩⟩
set_option maxRecDepth 100000 in
theorem lifted (os:Os)(started:os.Started)(H:Type)(enc:TypeId×Value→H)(F:Stop.Interp):
  ReturnsInHanded {} Tryz.checked os 7 .any ((Rows.OpenSpec.upto Rows.chainFullSpec).pre6 enc Tryz.prog Tryz.f7 Rows.chainFullUptoRow.domain false) (((Rows.OpenSpec.upto Rows.chainFullSpec).at F).post enc Tryz.prog Tryz.f7 false true false false):=by
 refine returnsInHanded_of_cond (C:=Tryz.checked) (s:=Rows.OpenSpec.upto Rows.chainFullSpec) (k:=Rows.uptoSmall) rfl own started (by kernel_rfl) Tryz.func7
  (OpenSpec.witness (enc:=enc) (C:=Tryz.checked) (s:=Rows.OpenSpec.upto Rows.chainFullSpec) (k:=Rows.uptoSmall) rfl false ⟨#[], #[.int .i64 0,.slice none 0 0],[]⟩ 8 (by kernel_rfl) (by kernel_rfl) (by kernel_rfl)
   (x:=([.lit (.int .i64 0),.nil],[],[])) (by kernel_rfl) rfl (by kernel_rfl)) ?_
 intro W base args ds gs before I J _ hk _
 exact NQ H enc W base args ds gs before I J (of_decide_eq_true hk)
theorem bL : Rows.chainFullUptoRow.holds Tryz.pinned (Rows.OpenSpec.upto Rows.chainFullSpec) :=
 OpenClaim.holds_of_cond 7 Tryz.f7 rfl rfl rfl rfl rfl rfl rfl ⟨rfl,rfl,rfl,rfl,rfl⟩ rfl rfl rfl rfl rfl (by kernel_rfl) Tryz.func7 (by kernel_rfl)
  (of_decide_eq_true (by kernel_rfl)) (by unfold Func.isWrapper; first | (rw [if_pos (by decide +kernel)]; kernel_rfl) | (rw [if_neg (by decide +kernel)]; exact ⟨rfl,rfl⟩))
  (fun os started H enc _ F=>lifted os started H enc F)
theorem proved : Rows.ChainFullUptoSaid :=
 bL
#print axioms proved
end Go.Proofs.YtefepnnfphdkpaaGreat.ChainFull
