/- SpacePlays: a part of its proof; conditions: its statement's. -/
import Derived.Test.YtefepnnfphdkpaaGreatE37
import Derived.Test.YtefepnnfphdkpaaGreatE24
import Derived.Test.YtefepnnfphdkpaaGreatE30
import Derived.WalkKit
import Derived.ProofKit
import Derived.OpenShut
import Derived.ChangeSlices
import Derived.Test.YtefepnnfphdkpaaGreatRows
import Derived.JoinedCond
import Derived.ChangeBook
import Derived.ChangeStays
namespace Go.Proofs.YtefepnnfphdkpaaGreat.Am
open Go
section
variable {told:cZ} {h:H} {S:List au} {dv:V} {L:List (Int×Int×Int)} {n0:Int}
theorem No (hT:D9 told)(hLn:L.length≤1048576)(s:Sat h (wA 3 dv (vC L)::S)): Call ⟨Tryz.prog,told⟩ 10 [.int .i64 n0,dv] h fun v h'=>v=.bool true:=by
 have hW:=hT.w
 obtain ⟨k,hk,hke⟩:=PC (k:=n0) (m:=31) (by decide)
 have kQ:=I8 L
 refine Call.of_wp (hW.free _ rfl) Tryz.func10 rfl rfl (zK 7 rfl (zc rfl (Nd hT.ws s) ?_))
 rintro v h ⟨rfl,s⟩
 refine zo rfl (cX rfl rfl) (zk 7 rfl (zo rfl (aT rfl rfl rfl (s.Gn (n:=L.length) (j:=0) rfl kQ (by decide) yz)) ?_))
 by_cases hL:200<L.length
 ·skip
  refine zt rfl (af rfl rfl er) (by simp; omega) ?_
  refine zk 6 rfl (WP.ret ⟨aa,_,rfl,?_⟩)
  rfl
 ·skip
  refine zh rfl (af rfl rfl er) (by simp; omega) ?_
  refine zk 6 rfl (zo rfl (af (r:=.int .i64 (k:Int)) rfl rfl hke) ?_)
  obtain ⟨N,hN⟩:∃N,N=6+k:=⟨_,rfl⟩
  have hNi:(N:Int)=6+(k:Int):=by omega
  refine zo rfl (af (r:=.int .i64 (N:Int)) rfl rfl (by rw [hNi]; exact bg (aB (by omega) (by omega)))) ?_
  refine zk 5 rfl (zc rfl (wV (n:=N) (m:=262144) (f:=12) hT.ws (by omega) (by omega) (by decide) (by omega) (by decide) (by decide) s) ?_)
  rintro v h ⟨p,a,q,r,ε,rfl,fF,hp,hd,s⟩
  refine zk 6 rfl (zh rfl (af rfl rfl (wm o7)) (rfl) (zk 6 rfl (zc rfl (Nc (n:=N) hW (by omega) (by omega) s) ?_)))
  rintro v h ⟨uv,rfl,J,s⟩
  have xP:=(s.Vk (j:=0) rfl).2.2
  have I:(uv::AD).all storable=true:=by rw [gU,J]; rfl
  refine az.cz s rfl rfl rfl (cy AJ) (fun p7 h s => ?_)
  refine zS rfl (s.eZ (j:=0) rfl dm rfl I) ?_
  rintro h s
  have s:Sat h (pt p7 (.cells 17 (uv::AD) false)::jx uv (eo (AE N))::SA a p q r .b7 [] 0 ε::wA 3 dv (vC L)::S):=s
  refine zk 4 rfl (zc rfl (qO hW (s.ae [2])) ?_)
  rintro v h ⟨g,rfl,s⟩
  refine zk 4 rfl (zl rfl (s.bZ (k:=1) rfl fV dm) ?_)
  refine az.cz s rfl rfl rfl (cy AJ) (fun p9 h s => ?_)
  refine zS rfl (s.eZ (j:=0) rfl dm rfl I) ?_
  rintro h s
  have s:Sat h (pt p9 (.cells 17 (uv::AD) false)::GA g a p q r [] 0 [] ε::pt p7 (.cells 17 (uv::AD) false)::jx uv (eo (AE N))::wA 3 dv (vC L)::S):=s
  have s:=((s.ae [3]).dup (aX.jx _ _)).ae [3,3,2,0,0]
  have hm:oJ N (List.replicate 64 0) yy (pgA ε) AD (AE N):=⟨hp,wW.zero,SL,fun i hi=>by rw [SM hi,B_]⟩
  refine zk 6 rfl (WP.block ?_)
  refine YW hT (by omega) (by omega) L.length 0 (520*N+28) g 0 ε [] AD AD (AE N) (AE N) uv uv _ _ _ (by omega) ⟨fF,NW.nil N,⟨_,_,hm⟩,⟨_,_,hm⟩,hd,by simp only [bM]; omega,⟨J,xP⟩,⟨J,xP⟩⟩ s ⟨rfl,rfl,rfl,rfl,rfl,rfl,aa⟩ (fun E' h' => ?_)
  refine WP.has (F:=[]) aa (zK 4 rfl (WP.ret ⟨aa,_,rfl,?_⟩))
  rfl
end
def GP (c:Ctx): Prop:=∀id,id<c.N→c.X id=true
noncomputable def Ctx.fix (c:Ctx)(w:World)(b off:Nat): Ctx:=⟨fun i=>if i=c.N then (b,off) else c.ρ i,fun x=>if x=b then rowSize w b else c.Z x,c.N+1,fun i=>if i=c.N then true else c.X i⟩
theorem Rel.fix {c:Ctx}{σ:H}{w:World}(h:Rel c σ w)(hX:GP c){b off:Nat}{cs:List V}{C:Array Value}{e:TypeId}{fz:Nat×Nat}(hb:w.heap[b]?=some (.cells C e fz))(hl:off+cs.length≤C.size)
 (hc:∀j v,cs[j]?=some v→C[off+j]?=some (conc c v))(iS:∀v∈cs,wf c v∧storable v=true):
  Rel (c.fix w b off) (σ.new (.cells cs.length cs true)) w∧GP (c.fix w b off)∧Ext c (c.fix w b off)∧(c.fix w b off).ρ σ.next=(b,off)∧σ.next<(c.fix w b off).N:=by
 have hold:∀i,i<c.N→(c.fix w b off).ρ i=c.ρ i:=fun i hi=>by simp [Ctx.fix,iJ hi]
 have Ba:∀i,i<c.N→(c.fix w b off).X i=c.X i:=fun i hi=>by simp [Ctx.fix,iJ hi]
 have I:(c.fix w b off).ρ c.N=(b,off):=by simp [Ctx.fix]
 have hnX:(c.fix w b off).X c.N=true:=by simp [Ctx.fix]
 have hN:(c.fix w b off).N=c.N+1:=rfl
 have bC:b<w.heap.size:=(Array.getElem?_eq_some_iff.1 hb).1
 have mC:GP (c.fix w b off):=fun i hi=>by
  by_cases J:i=c.N
  ·rw [J]; exact hnX
  ·rw [Ba i (by rw [hN] at hi; omega)]; exact hX i (by rw [hN] at hi; omega)
 have ex:Ext c (c.fix w b off):=⟨by rw [hN]; omega,hold,fun i hi=>by
  show (if (c.ρ i).1=b then rowSize w b else c.Z (c.ρ i).1)=_
  split
  ·rename_i he; rw [h.zz i hi,he]
  ·rfl,Ba⟩
 have key:∀i o,(σ.new (.cells cs.length cs true)).tr.get i=some o→(i=c.N∧o=.cells cs.length cs true)∨(i<c.N∧σ.tr.get i=some o):=by
  intro i o hi
  rw [fA,h.next] at hi
  by_cases J:i=c.N
  ·simp [J] at hi; exact .inl ⟨J,hi.symm⟩
  ·simp [J] at hi; exact .inr ⟨h.live i o hi,hi⟩
 refine ⟨⟨by simp [H.new,h.next,hN],fun i o hi => ?_,fun i hi => ?_,fun i hi => ?_,fun i j o o' hi hj he => ?_,fun i o hi => ?_,fun i og mN hi hx => ?_,fun i o hi hx => ?_⟩,mC,ex,by rw [h.next]; exact I,by rw [h.next,hN]; omega⟩
 ·rw [hN]; rcases key i o hi with ⟨J,_⟩ | ⟨J,_⟩ <;> omega
 ·rw [hN] at hi
  by_cases J:i=c.N
  ·rw [J,I]; exact bC
  ·rw [hold i (by omega)]; exact h.kP i (by omega)
 ·rw [hN] at hi
  by_cases J:i=c.N
  ·rw [J,I]; show (if b=b then rowSize w b else c.Z b)=_; rw [aq rfl]
  ·rw [hold i (by omega)]
   show (if (c.ρ i).1=b then rowSize w b else c.Z (c.ρ i).1)=_
   split
   ·rename_i he; rw [he]
   ·exact h.zz i (by omega)
 ·have li:i<c.N+1:=by rcases key i o hi with ⟨J,_⟩ | ⟨J,_⟩ <;> omega
  have lj:j<c.N+1:=by rcases key j o' hj with ⟨J,_⟩ | ⟨J,_⟩ <;> omega
  exact .inr ⟨mC i (by rw [hN]; exact li),mC j (by rw [hN]; exact lj)⟩
 ·rcases key i o hi with ⟨rfl,rfl⟩ | ⟨a1,a2⟩
  ·refine ⟨rfl,fun v hv=>⟨(b_ ex v (iS v hv).1).2,(iS v hv).2⟩,C,e,fz,by rw [I]; exact hb,by rw [I]; exact hl,fun j v hj => ?_,aa⟩
   rw [I,(b_ ex v (iS v (a_ hj)).1).1]
   exact hc j v hj
  ·exact (h.obj i o a2).later ex a1 rfl
 ·have li:i<c.N+1:=by rcases key i _ hi with ⟨J,_⟩ | ⟨J,_⟩ <;> omega
  rw [mC i (by rw [hN]; exact li)] at hx; cases hx
 ·rcases key i o hi with ⟨_,rfl⟩ | ⟨a1,a2⟩
  ·exact ⟨_,_,rfl⟩
  ·rw [Ba i a1] at hx; exact h.fx i o a2 hx
theorem HL {c c':Ctx}{w w':World}(hX:GP c)(h:cF c w c' w'): w.keptBut w' (fun _=>False)∧w.heap.size≤w'.heap.size∧∀b,b<w.heap.size→w'.heap[b]?=w.heap[b]?:=by
 have J:∀b,b<w.heap.size→w'.heap[b]?=w.heap[b]?:=fun b hb=>h.j5 b hb fun id I _=>hX id I
 refine ⟨⟨h.sys.1,h.sys.2,fun i hi => ?_⟩,h.size,J⟩
 rw [J i hi]
 split <;> simp_all
end Go.Proofs.YtefepnnfphdkpaaGreat.Am
namespace Go.Proofs.YtefepnnfphdkpaaGreat.Am
open Go Go.ChangeShapes
def yA (W:World)(S:List au)(c:Ctx)(σ:H): Prop:=Rel c σ W∧GP c∧Sat σ S
theorem yA.zero (W:World): ∃c σ,yA W [] c σ:=by
 refine ⟨_,_,Rel.empty W,fun id h=>absurd h (yQ _),⟨fun id o h=>by simp [T.jr] at h,fun _=>none,fun _=>none,fun _ _ h=>(by cases h),fun _ _ h=>(by cases h),fun _=>.inl rfl,aa⟩⟩
theorem yA.sat {W:World}{S S':List au}{c:Ctx}{σ:H}(h:yA W S c σ)(hs:∀h,Sat h S→Sat h S'): yA W S' c σ:=⟨h.1,h.2.1,hs σ h.2.2⟩
def oK {α:Type}(W:World)(cs:List Value)(E:List V→α→au)(φ:α→Prop): Prop :=
 ∀(c:Ctx) (σ:H) (S:List au),yA W S c σ→∃(c':Ctx) (I:H) (J:List V) (x:α),yA W (E J x::S) c' I∧Ext c c'∧J.map (conc c')=cs∧(∀v∈J,wf c' v∧storable v=true)∧φ x
theorem oK.rows {W:World}{α:Type}{E:List V→α→au}{A:List V→List α→au}{φ:α→Prop}(hE:∀vs x,aX (E vs x))(hA:∀l m,aX (A l m))(vP:∀m r,(A [] []).p m r)(J:∀vs x l m a b,(E vs x).p a b→(A l m).p a b→(A (vs++l) (x::m)).p a b):
  ∀(I:List (List Value)),(∀cs∈I,oK W cs E φ)→oK W I.flatten A (fun xs=>xs.length=I.length∧∀x∈xs,φ x):=by
 intro I
 induction I with
 | nil =>
  intro _ c σ S h
  exact ⟨c,σ,[],[],h.sat fun h s=>(s.gr (φ:=True) aa).iU fun m r _=>vP m r,Ext.refl c,rfl,fun v hv=>(by cases hv),rfl,fun x hx=>(by cases hx)⟩
 | cons cs I ih =>
  intro hc c σ S h
  obtain ⟨c1,Y1,l,m,h1,e1,m1,w1,n1,p1⟩:=ih (fun x hx=>hc x (b6 _ hx)) c σ S h
  obtain ⟨c2,σ2,vs,x,h2,e2,m2,w2,p2⟩:=hc cs ct c1 Y1 _ h1
  obtain ⟨q1,q2⟩:=mM e2 fun v hv=>(w1 v hv).1
  refine ⟨c2,σ2,vs++l,x::m,h2.sat fun h s=>s.two (hE _ _) (hA _ _) fun a b k1 k2=>J _ _ _ _ _ _ k1 k2,e1.trans e2,?_,fun v hv => ?_,by simp [n1],fun y hy => ?_⟩
  ·rw [Cp,m2,q1,m1,List.flatten_cons]
  ·rcases List.mem_append.1 hv with hv | hv
   ·exact w2 v hv
   ·exact ⟨q2 v hv,(w1 v hv).2⟩
  ·rcases List.mem_cons.1 hy with rfl | hy
   ·exact p2
   ·exact p1 y hy
def Np {α:Type}(k:Nat)(A:List V→List α→au)(I:List V)(x:List α): au:=.xs fun v:V=>.xs fun cs:List V=>.an (.pu (I=[v])) (.an (wA k v cs) (A cs x))
theorem oK.Y2 {W:World}{α:Type}{k:Nat}{A:List V→List α→au}{φ:List α→Prop}(I:∀m r,(A [] []).p m r)(J:φ []): oK W [.slice none 0 0] (Np k A) φ:=fun c σ S h =>
 ⟨c,σ,[.bu],[],h.sat fun h s=>(s.gr (φ:=True) aa).iU fun m r _=>⟨.bu,[],rfl,⟨none,.inl rfl,rfl⟩,I m r⟩,Ext.refl c,by simp [conc],fun v hv=>by rw [List.mem_singleton.1 hv]; exact ⟨aa,rfl⟩,J⟩
theorem oK.Vt {W:World}{α:Type}{k:Nat}{A:List V→List α→au}{φ:List α→Prop}{a:Addr}(I:∀m r,(A [] []).p m r)(J:φ []): oK W [.slice (some a) 0 0] (Np k A) φ:=fun c σ S h =>
 ⟨c,σ,[.sle a],[],h.sat fun h s=>(s.gr (φ:=True) aa).iU fun m r _=>⟨.sle a,[],rfl,⟨none,.inr ⟨a,rfl⟩,rfl⟩,I m r⟩,Ext.refl c,by simp [conc],fun v hv=>by rw [List.mem_singleton.1 hv]; exact ⟨aa,rfl⟩,J⟩
theorem oK.Y3 {W:World}{α:Type}{k b off len cap:Nat}{A:List V→List α→au}{φ:List α→Prop}{cs:List Value}{C:Array Value}{e:TypeId}{fz:Nat×Nat}(hb:W.heap[b]?=some (.cells C e fz))(hl:off+cs.length≤C.size)(hn:cs.length=len*k)(Cy:len≤cap)
 (hc:∀j v,cs[j]?=some v→C[off+j]?=some v)(hA:∀l m,aX (A l m))(ho:oK W cs A φ): oK W [.slice (some ⟨b,off,none⟩) len cap] (Np k A) φ:=by
 intro c σ S h
 obtain ⟨c1,I,J,x,h1,e1,m1,w1,p1⟩:=ho c σ S h
 have hlen:J.length=cs.length:=by rw [←m1,dF]
 obtain ⟨g1,g2,g3,g4,g5⟩:=h1.1.fix h1.2.1 hb (cs:=J) (off:=off) (by omega) (fun j v hv=>hc j _ (by rw [←m1,m8,hv]; rfl)) w1
 refine ⟨_,_,[.sl I.next 0 len (.exact cap)],x,⟨g1,g2,?_⟩,e1.trans g3,?_,fun v hv => ?_,p1⟩
 ·have s1:Sat (I.new (.cells J.length J true)) (.ro I.next (.cells J.length J true)::A J x::S):=(h1.2.2.new _).freeze
  refine s1.two (aX.ro _ _) (hA _ _) fun m r k1 k2=>⟨_,J,rfl,⟨some (I.next,len,cap),k1,rfl,by rw [hlen,hn]⟩,k2⟩
 ·simp [conc,g4]
 ·rw [List.mem_singleton.1 hv]
  exact ⟨⟨g5,Cy⟩,rfl⟩
theorem PK {W:World}{a:Addr}{v:Value}(h:W.cell? a=some v): ∃b off,a=⟨b,off,none⟩∧∃C e I,W.heap[b]?=some (.cells C e I)∧C[off]?=some v:=by
 obtain ⟨b,off,spot⟩:=a
 have hs:spot=none:=World.cell?_spot h
 subst hs
 refine ⟨b,off,rfl,?_⟩
 unfold World.cell? at h
 split at h
 ·rename_i C e I J
  exact ⟨C,e,I,J,by simpa using h⟩
 ·cases h
theorem SV {α β:Type}{f:α→β}{l:List α}{b:β}(h:l.map f=[b]): ∃a,l=[a]∧f a=b:=by
 rcases l with _ | ⟨a,_ | ⟨c,l⟩⟩
 ·cases h
 ·simp at h; exact ⟨a,rfl,h⟩
 ·simp at h
end Go.Proofs.YtefepnnfphdkpaaGreat.Am
namespace Go.Proofs.YtefepnnfphdkpaaGreat.Am
open Go Go.ChangeShapes Go.WideShapes Go.ChangeAt Go.RowKit
theorem PL {H:Type}(d:DataW H): 1≤Rows.uptoBulk d:=by
 cases d with
 | lit l=>cases l <;> simp [Rows.uptoBulk]
 | nil=>simp [Rows.uptoBulk]
 | ptr d=>simp [Rows.uptoBulk]
 | slice elems spare=>simp [Rows.uptoBulk]
 | agg parts=>simp [Rows.uptoBulk]
 | iface t d=>simp [Rows.uptoBulk]
 | map entries=>simp [Rows.uptoBulk]
 | held h=>simp [Rows.uptoBulk]
theorem D_ {H:Type}{d:DataW H}: ∀ {l:List (DataW H)},d∈l→Rows.uptoBulk d≤Rows.uptoBulkAll l:=by
 intro l
 induction l with
 | nil=>intro h; cases h
 | cons x r I =>
  intro h
  simp only [Rows.uptoBulkAll]
  rcases List.mem_cons.1 h with e | e
  ·subst e; omega
  ·have:=I e; omega
theorem PN {H:Type}: ∀(l:List (DataW H)),l.length≤Rows.uptoBulkAll l:=by
 intro l
 induction l with
 | nil=>exact gV _
 | cons x r I=>have:=PL x; simp only [Rows.uptoBulkAll,aH]; omega
theorem KG {H:Type}(a b:List (DataW H)): Rows.uptoBulk (.slice a b)=Rows.uptoBulkAll a+Rows.uptoBulkAll b+1:=by simp only [Rows.uptoBulk]
theorem SW {W:World}{b o:Nat}{C:Array Value}{e:TypeId}{I:Nat×Nat}(J:W.heap[b]?=some (.cells C e I)): W.cell? ⟨b,o,none⟩=C[o]?:=by
 unfold World.cell?
 simp only [J]
 rfl
section
variable {H':Type} {enc:TypeId×Value→H'} {W:World} {fuel B:Nat} {cs:List Value} {x:DataW H'×List MemPlace}
theorem Nq {α:Type}{t e:TypeId}{k:Nat}{E:List V→α→au}{A:List V→List α→au}{φ:α→Prop}(ht:Tryz.prog.underlying t=some (.slice e))(hk:Tryz.prog.cellsOf e=k)(h1:1≤k)
 (hE:∀vs x,aX (E vs x))(hA:∀l m,aX (A l m))(J:∀m r,(A [] []).p m r)(Jm:∀vs x l m a b,(E vs x).p a b→(A l m).p a b→(A (vs++l) (x::m)).p a b)
 (Ii:∀n cs (y:DataW H'×List MemPlace),DataW.trod enc Tryz.prog W 0 (fun _=>true) true n e cs=some y→Rows.uptoBulk y.1≤B→oK W cs E φ)
 (h:DataW.trod enc Tryz.prog W 0 (fun _=>true) true fuel t cs=some x)(hB:Rows.uptoBulk x.1≤B): oK W cs (Np k A) (fun xs=>xs.length≤B∧∀x∈xs,φ x):=by
 rcases DataW.trod_slice ht h with ⟨rfl,rfl⟩ | ⟨a,len,cap,elems,rest,n,_,rfl,rfl,_,QM,_,hlen,PO,wS,_⟩
 ·exact oK.Y2 J ⟨gV _,fun x hx=>(by cases hx)⟩
 ·obtain ⟨Ma,QZ⟩:=wS rfl
  rw [hk] at PO QZ
  rw [KG] at hB
  by_cases h0:cap=0
  ·have:len=0:=by omega
   subst this
   subst h0
   exact oK.Vt J ⟨gV _,fun x hx=>(by cases hx)⟩
  ·-- each element's cells
   have each:∀i,i<cap→∃cs,W.cells? 0 (a.add (i*k)) k=some cs:=fun i hi=>by
    by_cases tW:i<len
    ·have h2:=PO i tW
     rw [aN (by omega)] at h2
     obtain ⟨cs,h3,_⟩:=Option.bind_eq_some_iff.1 h2
     exact ⟨cs,h3⟩
    ·have h2:=QZ (i-len) (by omega)
     rw [aN (by omega),show len+(i-len)=i by omega] at h2
     obtain ⟨cs,h3,_⟩:=Option.bind_eq_some_iff.1 h2
     exact ⟨cs,h3⟩
   obtain ⟨cs0,Y4⟩:=each 0 (by omega)
   obtain ⟨_,Du,hc0⟩:=World.cells?_some Y4
   have g0:=hc0 0 (by omega)
   obtain ⟨v0,hv0⟩:∃v,cs0[0]?=some v:=⟨_,aN (by omega)⟩
   rw [hv0] at g0
   obtain ⟨b,off,spot⟩:=a
   have hs:spot=none:=by simpa [Addr.add] using World.cell?_spot g0
   subst hs
   simp only [add_plain,uU,jg] at g0
   obtain ⟨b',off',he,C,ty,fz,hb,Bb⟩:=PK g0
   simp only [Addr.mk.injEq,and_true] at he
   obtain ⟨rfl,rfl⟩:=he
   have aaI:off<C.size:=(Array.getElem?_eq_some_iff.1 Bb).1
   -- the rows
   have rows:∀i,i<len→∃cs,cs.length=k∧oK W cs E φ∧∀q v,cs[q]?=some v→C[off+i*k+q]?=some v:=fun i hi=>by
    have h2:=PO i hi
    rw [aN (by omega)] at h2
    obtain ⟨cs,h3,h4⟩:=Option.bind_eq_some_iff.1 h2
    obtain ⟨_,hl,hc⟩:=World.cells?_some h3
    refine ⟨cs,hl,Ii n cs _ h4 ?_,fun q v hq => ?_⟩
    ·have:=D_ (l:=elems.map (·.1)) (m7 (pJ (l:=elems) (n:=i) (by omega)))
     omega
    ·have hqk:q<k:=by rw [←hl]; exact (List.getElem?_eq_some_iff.1 hq).1
     have:=hc q hqk
     rw [add_plain,add_plain,SW hb,hq] at this
     exact this
   have build:∀m,m≤len→∃I:List (List Value),I.length=m∧(∀cs∈I,oK W cs E φ)∧I.flatten.length=m*k∧∀j v,I.flatten[j]?=some v→C[off+j]?=some v:=by
    intro m
    induction m with
    | zero=>intro _; exact ⟨[],rfl,fun cs h=>(by cases h),by simp,fun j v h=>by simp at h⟩
    | succ m ih =>
     intro hm
     obtain ⟨I,i1,i2,i3,i4⟩:=ih (by omega)
     obtain ⟨cs,r1,r2,r3⟩:=rows m (by omega)
     refine ⟨I++[cs],by simp [i1],fun y hy => ?_,by simp [i3,r1,iK],fun j v hj => ?_⟩
     ·rcases List.mem_append.1 hy with hy | hy
      ·exact i2 y hy
      ·rw [List.mem_singleton.1 hy]; exact r2
     ·rw [List.flatten_append,List.flatten_singleton] at hj
      by_cases bC:j<m*k
      ·rw [iF (by rw [i3]; exact bC)] at hj
       exact i4 j v hj
      ·rw [me (by rw [i3]; omega),i3] at hj
       have:=r3 _ v hj
       rwa [show off+m*k+(j-m*k)=off+j by omega] at this
   obtain ⟨I,b1,b2,b3,b4⟩:=build len (aD _)
   have fS:off+I.flatten.length≤C.size:=by
    rw [b3]
    by_cases Du:len*k=0
    ·omega
    ·obtain ⟨v,hv⟩:∃v,I.flatten[len*k-1]?=some v:=⟨_,aN (by rw [b3]; omega)⟩
     have:=(Array.getElem?_eq_some_iff.1 (b4 _ v hv)).1
     omega
   have main:=oK.Y3 (k:=k) (len:=len) (cap:=cap) hb fS b3 QM b4 hA (oK.rows hE hA J Jm I b2)
   intro c σ S h
   obtain ⟨c1,Y1,vs,x,q1,q2,q3,q4,q5,q6⟩:=main c σ S h
   refine ⟨c1,Y1,vs,x,q1,q2,q3,q4,?_,q6⟩
   have:=PN (elems.map (·.1))
   rw [dF] at this
   omega
end
end Go.Proofs.YtefepnnfphdkpaaGreat.Am
namespace Go.Proofs.YtefepnnfphdkpaaGreat.Am
open Go Go.ChangeShapes Go.WideShapes Go.ChangeAt Go.RowKit
noncomputable def EG (f:Nat): Option (List V→H→Option (V×H)) :=
 cond (Nat.beq f 31) (some (l8 Tryz.prog 31 (GI 31))) (cond (Nat.beq f 139) (some (l8 Tryz.prog 139 Db))
  (cond (Nat.beq f 145) (some (l8 Tryz.prog 145 F5)) (zX f)))
noncomputable abbrev CP : cB:=⟨Tryz.prog,EG⟩
theorem PR : D9 EG:=by
 refine ⟨⟨⟨fun f I => ?_,rfl,rfl⟩,rfl,rfl⟩,rfl⟩
 have J:f≠31:=fun e=>by subst e; revert I; decide
 have h2:f≠139:=fun e=>by subst e; revert I; decide
 have h3:f≠145:=fun e=>by subst e; revert I; decide
 simp only [EG,cH J,cH h2,cH h3,ay]
 exact W.base.free f I
theorem GQ : fo CP:=by
 intro f g I
 simp only [CP,EG] at I ⊢
 by_cases J:f=31
 ·subst J
  rw [iA rfl,ag] at I
  simp only [ak] at I
  subst I
  exact ya ⟨_,GJ,rfl,by decide⟩
 ·rw [cH J,ay] at I
  by_cases h2:f=139
  ·subst h2
   rw [iA rfl,ag] at I
   simp only [ak] at I
   subst I
   exact ya ⟨_,xZ,rfl,by decide⟩
  ·rw [cH h2,ay] at I
   by_cases h3:f=145
   ·subst h3
    rw [iA rfl,ag] at I
    simp only [ak] at I
    subst I
    exact ya ⟨_,F4,rfl,by decide⟩
   ·rw [cH h3,ay] at I
    exact fg f g I
theorem gF.okP {f:FuncId}{args:List V}{h h':H}{v:V}(J:gF CP f args h v h'){c:Ctx}{w:World}(I:Rel c h w)(hw:∀x∈args,wf c x): fI Tryz.prog f args c w v h':=by
 obtain ⟨N,hN⟩:=J
 exact (sI (C:=CP) (Bk g8 GQ N).1 GQ hN I hw).1
noncomputable def Nr (P:Program)(t:TypeId): Array Field:=match P.underlying t with
 | some (.struct I)=>I
 | _ => #[]
def GR (I:Array Field)(i:Nat): Option (TypeId×Nat):=(I[i]?).map fun f=>(f.type,f.offset)
theorem Ww : Tryz.prog.underlying 67=some (.struct (Nr Tryz.prog 67)):=by kernel_rfl
theorem Q0 : Tryz.prog.cellsOf 67=3:=by kernel_rfl
theorem KH : Tryz.prog.cellsOf 3=1:=by kernel_rfl
theorem Wx : (Nr Tryz.prog 67).size=3:=by kernel_rfl
theorem Wy : GR (Nr Tryz.prog 67) 0=some (3,0):=by kernel_rfl
theorem Wz : GR (Nr Tryz.prog 67) 1=some (3,1):=by kernel_rfl
theorem WA : GR (Nr Tryz.prog 67) 2=some (3,2):=by kernel_rfl
theorem Dp {J:Array Field}{i:Nat}{t:TypeId}{o:Nat}(h:GR J i=some (t,o)): ∃f,J[i]?=some f∧f.type=t∧f.offset=o:=by
 unfold GR at h
 obtain ⟨f,h1,I⟩:=Option.map_eq_some_iff.1 h
 simp only [aC] at I
 exact ⟨f,h1,I.1,I.2⟩
theorem Ns {α:Type}{l:List α}(h:l.length=3): ∃a b c,l=[a,b,c]:=by
 rcases l with _ | ⟨a,_ | ⟨b,_ | ⟨c,_ | ⟨d,l⟩⟩⟩⟩ <;> simp at h
 exact ⟨a,b,c,rfl⟩
def XT (I:List V)(D:Int×Int×Int): au:=.pu (I=[.int .i64 D.1,.int .i64 D.2.1,.int .i64 D.2.2])
def d3A (l:List V)(m:List (Int×Int×Int)): au:=.pu (l=vC m)
section
variable {H':Type} {enc:TypeId×Value→H'} {W:World} {fuel B:Nat} {cs:List Value} {x:DataW H'×List MemPlace}
theorem SX (h:DataW.trod enc Tryz.prog W 0 (fun _=>true) true fuel 67 cs=some x): oK W cs XT (fun _=>True):=by
 obtain ⟨xs,n,rfl,rfl,hl,hx,hf⟩:=DataW.trod_struct Ww h
 rw [Q0] at hl
 rw [Wx] at hx
 obtain ⟨f0,a0,b0,c0⟩:=Dp Wy
 obtain ⟨f1,a1,b1,c1⟩:=Dp Wz
 obtain ⟨f2,a2,b2,c2⟩:=Dp WA
 have h0:=hf 0 f0 a0
 have h1:=hf 1 f1 a1
 have h2:=hf 2 f2 a2
 rw [b0,c0,KH] at h0
 rw [b1,c1,KH] at h1
 rw [b2,c2,KH] at h2
 obtain ⟨v0,v1,v2,rfl⟩:=Ns hl
 obtain ⟨y0,y1,y2,rfl⟩:=Ns hx
 have h0:DataW.trod enc Tryz.prog W 0 (fun _=>true) true n 3 [v0]=some y0:=h0
 have h1:DataW.trod enc Tryz.prog W 0 (fun _=>true) true n 3 [v1]=some y1:=h1
 have h2:DataW.trod enc Tryz.prog W 0 (fun _=>true) true n 3 [v2]=some y2:=h2
 obtain ⟨m0,I,_,_⟩:=DataW.trod_int bI h0
 injection I with I _
 subst I
 obtain ⟨m1,J,_,_⟩:=DataW.trod_int bI h1
 injection J with J _
 subst J
 obtain ⟨m2,Dv,_,_⟩:=DataW.trod_int bI h2
 injection Dv with Dv _
 subst Dv
 exact fun c σ S hr=>⟨c,σ,[.int .i64 m0,.int .i64 m1,.int .i64 m2],(m0,m1,m2),hr.sat fun h s=>(s.gr (φ:=True) aa).iU fun a b k=>rfl,Ext.refl c,by simp [conc],fun v hv=>by
  simp only [ij,mg,rW] at hv
  rcases hv with rfl | rfl | rfl <;> exact ⟨aa,rfl⟩,aa⟩
theorem PS (h:DataW.trod enc Tryz.prog W 0 (fun _=>true) true fuel 61 cs=some x)(hB:Rows.uptoBulk x.1≤B): oK W cs (Np 3 d3A) (fun xs=>xs.length≤B∧∀y∈xs,True) :=
 Nq (E:=XT) yz Q0 (by decide) (fun _ _=>aX.pu _) (fun _ _=>aX.pu _) (fun _ _=>rfl) (fun vs x l m a b I J=>by
  have I:vs=[.int .i64 x.1,.int .i64 x.2.1,.int .i64 x.2.2]:=I
  have J:l=vC m:=J
  subst I
  subst J
  exact (rfl:_=vC (x::m))) (fun n cs y hy _=>SX hy) h hB
end
theorem HM {H':Type}{enc:TypeId×Value→H'}{W:World}{fuel:Nat}{x:DataW H'×List MemPlace}{n:Int}{v:Value}(h:DataW.trod enc Tryz.prog W 0 (fun _=>true) true fuel 61 [v]=some x)(hB:Rows.uptoBulk x.1≤1048576):
  Calls Tryz.prog 10 #[.int .i64 n,v] W fun e w'=>e=.returned (.bool true)∧W.keptBut w' (fun _=>False)∧W.heap.size≤w'.heap.size∧∀b,b<W.heap.size→w'.heap[b]?=W.heap[b]?:=by
 obtain ⟨c0,J,h0⟩:=yA.zero W
 obtain ⟨c,σ,vs,l,hr,_,hm,iS,hl⟩:=PS h hB c0 J [] h0
 obtain ⟨dv,rfl,Nj⟩:=SV hm
 obtain ⟨dv',s⟩:=kz.1 hr.2.2
 obtain ⟨cs,s⟩:=kz.1 s
 have s0:=s
 obtain ⟨_,_,_,_,hk⟩:=s0.at (k:=0) rfl
 have e:[dv]=[dv']:=hk.1
 injection e with e _
 subst e
 have ec:cs=vC l:=hk.2.2
 subst ec
 have s1:=s.iU (B:=wA 3 dv (vC l)) fun _ _ k=>k.2.1
 obtain ⟨v',h',xu,rfl⟩:=No PR (n0:=n) hl.1 s1
 have I:=xu.okP hr.1 (fun x hx=>by
  rcases List.mem_cons.1 hx with rfl | hx
  ·exact aa
  ·rw [List.mem_singleton.1 hx]; exact (iS _ (by simp)).1)
 unfold fI at I
 have ea:(([V.int .i64 n,dv].map (conc c)).toArray) = #[.int .i64 n,v]:=by simp [conc,Nj]
 rw [ea] at I
 refine Calls.mono I ?_
 rintro e w' ⟨c',rfl,_,_,hs⟩
 obtain ⟨k1,k2,k3⟩:=HL hr.2.1 hs
 exact ⟨by simp [conc],k1,k2,k3⟩
end Go.Proofs.YtefepnnfphdkpaaGreat.Am
namespace Go.Proofs.YtefepnnfphdkpaaGreat.SpacePlays
open Go.ChangeShapes Go.WideShapes Go.ChangeAt Go.RowKit
theorem own : ownKnob Tryz.prog.godebug=none:=by kernel_rfl
theorem laid : laidOutB Tryz.prog=true:=by kernel_rfl
theorem Vu : Tryz.prog.readableRec 61=true:=by kernel_rfl
theorem row : (61:TypeId)<Tryz.prog.types.size:=of_decide_eq_true (by kernel_rfl)
set_option maxRecDepth 100000 in
theorem PT (H:Type)(enc:TypeId×Value→H)(W:World)(base:Nat)(args:Array Value)(ds gs:List (DataW H))(before:List MemPlace)
 (I:∀(j:Nat) t v,Tryz.f10.params[j]?=some t→args[j]?=some v→Value.okWide Tryz.prog W .any base t v)
 (hW:DataW.Whole enc Tryz.prog Tryz.f10.params.toList Rows.spacePlaysSpec.vars false W args.toList ds gs before)(hk:Rows.uptoBulkAll (ds++gs)≤1048576):
  Calls Tryz.prog 10 args W fun e W'=>∃v,e=.returned v∧Rows.spacePlaysSpec.post enc Tryz.prog Tryz.f10 false true false false W args v W':=by
 have XU:=hW
 obtain ⟨p,q,hA0,hV,rfl,u7,vb⟩:=hW
 have hA:DataW.TrodAll enc Tryz.prog W 0 (fun _=>true) true Tryz.f10.params.toList args.toList ds p:=hA0
 rw [Tryz.params10] at hA I
 obtain ⟨v0,vs0,d0,ds0,p0,q0,EB,rfl,rfl,h0,r0⟩:=trodAll_cons hA
 obtain ⟨v1,vs1,d1,ds1,p1,q1,rfl,rfl,rfl,h1,r1⟩:=trodAll_cons r0
 obtain ⟨rfl,rfl,rfl⟩:=trodAll_nil r1
 obtain rfl:args = #[v0,v1]:=by cases args; simp_all
 obtain ⟨rfl,rfl⟩:=trodVars_none hV
 obtain ⟨a0,rfl,rfl,rfl,w0⟩:=open_int Tryz.underlying3 (I 0 3 v0 rfl rfl) h0
 obtain ⟨fuel,h1⟩:=h1
 have tH:v1.cells.toList=[v1]:=by
  have:=I 1 61 v1 rfl rfl
  simp only [Value.okWide,Tryz.underlying61,Cell.okWide,Cell.ok] at this
  split at this <;> first | rfl | exact this.elim
 have UQ:=h1
 rw [tH] at h1
 have hb:Rows.uptoBulk d1≤1048576:=by
  have:=Am.D_ (l:=([DataW.lit (Lit.int .i64 a0),d1]++([]:List (DataW H)))) (d:=d1) (by simp)
  exact Nat.le_trans this hk
 refine (Am.HM (n:=a0) h1 hb).mono fun e W' ⟨he,hg,hs,J⟩ => ?_
 subst he
 have bC:∀x∈p1,x.block<W.heap.size:=fun x hx=>XU.lt x (by simp [hx])
 have zu:DataW.trod enc Tryz.prog W' 0 (fun b=>decide (b<W.heap.size)) true fuel 61 v1.cells.toList=some (d1,p1) :=
  DataW.trod_stays (kids_book laid Vu) (book_sized Vu) (fun h=>by cases h) ⟨row,book_self _⟩ UQ (fun x hx=>by
   have hl:=bC x hx
   cases x with
   | cell b off =>
    show W'.cell? ⟨b,off,none⟩=W.cell? ⟨b,off,none⟩
    unfold World.cell?
    rw [J b hl]
   | map b=>exact J b hl) (fun x hx=>by simpa using bC x hx)
 exact ⟨_,rfl,⟨_,[],_,[],_,[],XU,trodAll_cons_mk (shut_bool Tryz.underlying4 _) trodAll_mk0,trodAll_cons_mk (shut_int Tryz.underlying3 w0) (trodAll_cons_mk ⟨fuel,zu⟩ trodAll_mk0),rfl,World.keptBut_mono (fun _ f=>f.elim) hg,fun h=>by cases h⟩⟩
set_option maxRecDepth 100000 in
theorem lifted (os:Os)(started:os.Started)(H:Type)(enc:TypeId×Value→H)(F:Stop.Interp):
  ReturnsInHanded {} Tryz.checked os 10 .any ((Rows.OpenSpec.upto Rows.spacePlaysSpec).pre6 enc Tryz.prog Tryz.f10 Rows.spacePlaysUptoRow.domain false) (((Rows.OpenSpec.upto Rows.spacePlaysSpec).at F).post enc Tryz.prog Tryz.f10 false true false false):=by
 refine returnsInHanded_of_cond (C:=Tryz.checked) (s:=Rows.OpenSpec.upto Rows.spacePlaysSpec) (k:=Rows.uptoSmall) rfl own started (by kernel_rfl) Tryz.func10
  (OpenSpec.witness (enc:=enc) (C:=Tryz.checked) (s:=Rows.OpenSpec.upto Rows.spacePlaysSpec) (k:=Rows.uptoSmall) rfl false ⟨#[], #[.int .i64 0,.slice none 0 0],[]⟩ 8 (by kernel_rfl) (by kernel_rfl) (by kernel_rfl)
   (x:=([.lit (.int .i64 0),.nil],[],[])) (by kernel_rfl) rfl (by kernel_rfl)) ?_
 intro W base args ds gs before I J _ hk _
 exact PT H enc W base args ds gs before I J (of_decide_eq_true hk)
theorem bX : Rows.spacePlaysUptoRow.holds Tryz.pinned (Rows.OpenSpec.upto Rows.spacePlaysSpec) :=
 OpenClaim.holds_of_cond 10 Tryz.f10 rfl rfl rfl rfl rfl rfl rfl ⟨rfl,rfl,rfl,rfl,rfl⟩ rfl rfl rfl rfl rfl (by kernel_rfl) Tryz.func10 (by kernel_rfl)
  (of_decide_eq_true (by kernel_rfl)) (by unfold Func.isWrapper; first | (rw [if_pos (by decide +kernel)]; kernel_rfl) | (rw [if_neg (by decide +kernel)]; exact ⟨rfl,rfl⟩))
  (fun os started H enc _ F=>lifted os started H enc F)
theorem proved : Rows.SpacePlaysUptoSaid :=
 bX
#print axioms proved
end Go.Proofs.YtefepnnfphdkpaaGreat.SpacePlays
