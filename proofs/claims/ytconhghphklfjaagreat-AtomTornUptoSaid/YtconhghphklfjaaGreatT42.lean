/- AtomTorn: pages that are clean are written anew, the device dies at one of these writes: what is read after Open is as it was; conditions: the statement's. -/
import Derived.Test.YtconhghphklfjaaGreatT41
import Derived.Test.YtconhghphklfjaaGreatRows
import Derived.Test.YtconhghphklfjaaGreatT35
import Derived.WalkKit
import Derived.ProofKit
import Derived.OpenShut
import Derived.JoinedCond
import Derived.ChangeBook
import Derived.ChangeStays
namespace Go.Proofs.YtconhghphklfjaaGreat.Am
open Go Go.ChangeShapes Go.WideShapes Go.ChangeAt Go.RowKit
theorem R2 {H:Type}(d:DataW H): 1≤Rows.uptoBulk d:=by
 cases d with
 | lit l=>cases l <;> simp [Rows.uptoBulk]
 | nil=>simp [Rows.uptoBulk]
 | ptr d=>simp [Rows.uptoBulk]
 | slice elems spare=>simp [Rows.uptoBulk]
 | agg parts=>simp [Rows.uptoBulk]
 | iface t d=>simp [Rows.uptoBulk]
 | map entries=>simp [Rows.uptoBulk]
 | held h=>simp [Rows.uptoBulk]
theorem nR {H:Type}{d:DataW H}: ∀ {l:List (DataW H)},d∈l→Rows.uptoBulk d≤Rows.uptoBulkAll l:=by
 intro l
 induction l with
 | nil=>intro h; cases h
 | cons x r I =>
  intro h
  simp only [Rows.uptoBulkAll]
  rcases List.mem_cons.1 h with e | e
  ·subst e; omega
  ·have:=I e; omega
theorem IU {H:Type}: ∀(l:List (DataW H)),l.length≤Rows.uptoBulkAll l:=by
 intro l
 induction l with
 | nil=>exact eM _
 | cons x r I=>have:=R2 x; simp only [Rows.uptoBulkAll,bl]; omega
theorem DL {H:Type}(a b:List (DataW H)): Rows.uptoBulk (.slice a b)=Rows.uptoBulkAll a+Rows.uptoBulkAll b+1:=by simp only [Rows.uptoBulk]
theorem IV {H:Type}(a:List (DataW H)): Rows.uptoBulk (.agg a)=Rows.uptoBulkAll a+1:=by simp only [Rows.uptoBulk]
theorem K9 {W:World}{b o:Nat}{C:Array Value}{e:TypeId}{I:Nat×Nat}(J:W.heap[b]?=some (.cells C e I)): W.cell? ⟨b,o,none⟩=C[o]?:=by
 unfold World.cell?
 simp only [J]
 rfl
section
variable {H':Type} {enc:TypeId×Value→H'} {W:World} {fuel B:Nat} {cs:List Value} {x:DataW H'×List MemPlace}
theorem E0 (h:DataW.trod enc Tryz.prog W 0 (fun _=>true) true fuel 32 cs=some x)(hB:Rows.uptoBulk x.1≤B): nQ W cs Te (fun l=>l.length≤B):=by
 rcases open_ints aS Tryz.underlying5 (by kernel_rfl) h with ⟨rfl,rfl⟩ | ⟨a,len,cap,zs,rfl,_,O9,_,hz,rfl,I,mV⟩
 ·exact fun c σ S h=>⟨c,σ,[.bz],[],h.sat fun h s=>s.r7.fY fun m r k=>⟨.bz,rfl,k⟩,Ext.refl c,by simp [conc],fun v J=>by rw [List.mem_singleton.1 J]; exact ⟨aa,rfl⟩,eM _⟩
 ·rw [aj rfl] at hz
  by_cases h0:cap=0
  ·have:len=0:=by omega
   subst this
   subst h0
   exact fun c σ S h=>⟨c,σ,[.sle a],[],h.sat fun h s=>(s.gB (φ:=True) aa).fY fun m r k=>⟨.sle a,rfl,by simp,.inl ⟨.inr ⟨a,rfl⟩,rfl⟩⟩,Ext.refl c,by simp [conc],fun v J=>by rw [List.mem_singleton.1 J]; exact ⟨aa,rfl⟩,eM _⟩
  ·have g0:=I 0 (by omega)
   obtain ⟨b,off,spot⟩:=a
   have hs:spot=none:=by simpa [Addr.add] using World.cell?_spot g0
   subst hs
   have I:∀i,i<zs.length→W.cell? ⟨b,off+i,none⟩=some (.int .u8 (zs.getD i 0)):=fun i hi=>by have:=I i hi; rwa [add_plain] at this
   obtain ⟨b',off',he,C,e,fz,hb,S8⟩:=IT (I 0 (by omega))
   simp only [Addr.mk.injEq,tQ] at he
   obtain ⟨rfl,rfl⟩:=he
   have hC:∀i,i<zs.length→C[off+i]?=some (.int .u8 (zs.getD i 0)):=fun i hi=>by rw [←K9 hb]; exact I i hi
   have abv:off<C.size:=by
    have:=(Array.getElem?_eq_some_iff.1 S8).1
    omega
   have hu8:∀z∈zs,0≤z∧z<256:=fun z hz=>by
    have:=mV z hz
    simp only [Lit.wf,aZ,dZ] at this
    have e1:IntKind.min .u8=0:=rfl
    have e2:IntKind.max .u8=255:=rfl
    omega
   have U:((zs.take len).map Int.toNat).length=len:=by rw [eu,dP]; omega
   have E8:(ofBytes ((zs.take len).map Int.toNat)).length=len:=by rw [dR,U]
   have abw:∀y∈(zs.take len).map Int.toNat,y<256:=fun y hy=>by
    obtain ⟨z,GK,rfl⟩:=List.mem_map.1 hy
    have:=hu8 z (gH GK)
    omega
   intro c σ S h
   have jq:off+(ofBytes ((zs.take len).map Int.toNat)).length≤C.size:=by
    rw [E8]
    by_cases E9:len=0
    ·omega
    ·have:=(Array.getElem?_eq_some_iff.1 (hC (len-1) (by omega))).1
     omega
   have abx:∀j v,(ofBytes ((zs.take len).map Int.toNat))[j]?=some v→C[off+j]?=some (conc c v):=fun j v J=>by
    have hj:=(List.getElem?_eq_some_iff.1 J).1
    rw [E8] at hj
    rw [hC j (by omega)]
    simp only [ofBytes,v8,pH,mj,aj hj] at J
    have HD:zs[j]?=some (zs[j]'(by omega)):=bg _
    rw [HD] at J
    have J:=bx J
    subst J
    have hb:=hu8 (zs[j]'(by omega)) (pI _)
    have hd:zs.getD j 0=zs[j]'(by omega):=by rw [kD,HD]; rfl
    rw [hd]
    simp only [Function.comp,conc]
    congr 2
    omega
   obtain ⟨g1,g2,g3,g4,g5⟩:=h.1.fix h.2.1 hb (off:=off) jq abx (fun v J=>by obtain ⟨n,_,rfl⟩:=List.mem_map.1 J; exact ⟨aa,rfl⟩)
   refine ⟨_,_,[.sl σ.next 0 len (.exact cap)],(zs.take len).map Int.toNat,⟨g1,g2,?_⟩,g3,?_,fun v J => ?_,?_⟩
   ·have s1:=(h.2.2.new (.cells (ofBytes ((zs.take len).map Int.toNat)).length (ofBytes ((zs.take len).map Int.toNat)) true)).freeze
    refine s1.fY fun m r k=>⟨_,rfl,abw,.inr ⟨σ.next,0,.exact cap,_,_,true,by rw [U],k,rfl,by rw [E8,U]; omega,?_,?_⟩⟩
    ·rw [d_]; exact fR (by rw [E8,U]; exact aI _)
    ·show _≤cap; rw [U]; exact O9
   ·simp [conc,g4]
   ·rw [List.mem_singleton.1 J]
    exact ⟨⟨g5,O9⟩,rfl⟩
   ·rw [DL] at hB
    have h1:=IU (lits (H:=H') .u8 (zs.take len))
    have h2:(lits (H:=H') .u8 (zs.take len)).length=len:=by simp [lits]; omega
    rw [U]; omega
theorem FY {α:Type}{t e:TypeId}{k:Nat}{E:List V→α→ax}{A:List V→List α→ax}{φ:α→Prop}(ht:Tryz.prog.underlying t=some (.slice e))(hk:Tryz.prog.cellsOf e=k)(h1:1≤k)
 (hE:∀vs x,aH (E vs x))(hA:∀l m,aH (A l m))(J:∀m r,(A [] []).p m r)(Lq:∀vs x l m a b,(E vs x).p a b→(A l m).p a b→(A (vs++l) (x::m)).p a b)
 (Kb:∀n cs (y:DataW H'×List MemPlace),DataW.trod enc Tryz.prog W 0 (fun _=>true) true n e cs=some y→Rows.uptoBulk y.1≤B→nQ W cs E φ)
 (h:DataW.trod enc Tryz.prog W 0 (fun _=>true) true fuel t cs=some x)(hB:Rows.uptoBulk x.1≤B): nQ W cs (BS k A) (fun xs=>xs.length≤B∧∀x∈xs,φ x):=by
 rcases DataW.trod_slice ht h with ⟨rfl,rfl⟩ | ⟨a,len,cap,elems,rest,n,_,rfl,rfl,_,O9,_,hlen,U,OU,_⟩
 ·exact nQ.abt J ⟨eM _,fun x hx=>(by cases hx)⟩
 ·obtain ⟨FD,Tf⟩:=OU rfl
  rw [hk] at U Tf
  rw [DL] at hB
  by_cases h0:cap=0
  ·have:len=0:=by omega
   subst this
   subst h0
   exact nQ.XR J ⟨eM _,fun x hx=>(by cases hx)⟩
  ·-- each element's cells
   have each:∀i,i<cap→∃cs,W.cells? 0 (a.add (i*k)) k=some cs:=fun i hi=>by
    by_cases C9:i<len
    ·have h2:=U i C9
     rw [bg (by omega)] at h2
     obtain ⟨cs,h3,_⟩:=Option.bind_eq_some_iff.1 h2
     exact ⟨cs,h3⟩
    ·have h2:=Tf (i-len) (by omega)
     rw [bg (by omega),show len+(i-len)=i by omega] at h2
     obtain ⟨cs,h3,_⟩:=Option.bind_eq_some_iff.1 h2
     exact ⟨cs,h3⟩
   obtain ⟨cs0,aby⟩:=each 0 (by omega)
   obtain ⟨_,E9,S8⟩:=World.cells?_some aby
   have g0:=S8 0 (by omega)
   obtain ⟨v0,hv0⟩:∃v,cs0[0]?=some v:=⟨_,bg (by omega)⟩
   rw [hv0] at g0
   obtain ⟨b,off,spot⟩:=a
   have hs:spot=none:=by simpa [Addr.add] using World.cell?_spot g0
   subst hs
   simp only [add_plain,v_,iY] at g0
   obtain ⟨b',off',he,C,ty,fz,hb,yj⟩:=IT g0
   simp only [Addr.mk.injEq,tQ] at he
   obtain ⟨rfl,rfl⟩:=he
   have abv:off<C.size:=(Array.getElem?_eq_some_iff.1 yj).1
   -- the rows
   have rows:∀i,i<len→∃cs,cs.length=k∧nQ W cs E φ∧∀q v,cs[q]?=some v→C[off+i*k+q]?=some v:=fun i hi=>by
    have h2:=U i hi
    rw [bg (by omega)] at h2
    obtain ⟨cs,h3,h4⟩:=Option.bind_eq_some_iff.1 h2
    obtain ⟨_,hl,hc⟩:=World.cells?_some h3
    refine ⟨cs,hl,Kb n cs _ h4 ?_,fun q v hq => ?_⟩
    ·have:=nR (l:=elems.map (·.1)) (iV (pI (l:=elems) (n:=i) (by omega)))
     omega
    ·have hqk:q<k:=by rw [←hl]; exact (List.getElem?_eq_some_iff.1 hq).1
     have:=hc q hqk
     rw [add_plain,add_plain,K9 hb,hq] at this
     exact this
   have build:∀m,m≤len→∃I:List (List Value),I.length=m∧(∀cs∈I,nQ W cs E φ)∧I.flatten.length=m*k∧∀j v,I.flatten[j]?=some v→C[off+j]?=some v:=by
    intro m
    induction m with
    | zero=>intro _; exact ⟨[],rfl,fun cs h=>(by cases h),by simp,fun j v h=>by simp at h⟩
    | succ m ih =>
     intro hm
     obtain ⟨I,i1,i2,i3,i4⟩:=ih (by omega)
     obtain ⟨cs,r1,r2,r3⟩:=rows m (by omega)
     refine ⟨I++[cs],by simp [i1],fun y hy => ?_,by simp [i3,r1,iE],fun j v hj => ?_⟩
     ·rcases List.mem_append.1 hy with hy | hy
      ·exact i2 y hy
      ·rw [List.mem_singleton.1 hy]; exact r2
     ·rw [List.flatten_append,List.flatten_singleton] at hj
      by_cases bV:j<m*k
      ·rw [kE (by rw [i3]; exact bV)] at hj
       exact i4 j v hj
      ·rw [nT (by rw [i3]; omega),i3] at hj
       have:=r3 _ v hj
       rwa [show off+m*k+(j-m*k)=off+j by omega] at this
   obtain ⟨I,b1,b2,b3,b4⟩:=build len (aI _)
   have jq:off+I.flatten.length≤C.size:=by
    rw [b3]
    by_cases E9:len*k=0
    ·omega
    ·obtain ⟨v,hv⟩:∃v,I.flatten[len*k-1]?=some v:=⟨_,bg (by rw [b3]; omega)⟩
     have:=(Array.getElem?_eq_some_iff.1 (b4 _ v hv)).1
     omega
   have main:=nQ.abu (k:=k) (len:=len) (cap:=cap) hb jq b3 O9 b4 hA (nQ.rows hE hA J Lq I b2)
   intro c σ S h
   obtain ⟨c1,R1,vs,x,q1,q2,q3,q4,q5,q6⟩:=main c σ S h
   refine ⟨c1,R1,vs,x,q1,q2,q3,q4,?_,q6⟩
   have:=IU (elems.map (·.1))
   rw [eu] at this
   omega
end
end Go.Proofs.YtconhghphklfjaaGreat.Am
namespace Go.Proofs.YtconhghphklfjaaGreat.Am
open Go Go.ChangeShapes Go.WideShapes Go.ChangeAt Go.RowKit
noncomputable def vP (P:Program)(t:TypeId): Array Field:=match P.underlying t with
 | some (.struct I)=>I
 | _ => #[]
def FZ (I:Array Field)(i:Nat): Option (TypeId×Nat):=(I[i]?).map fun f=>(f.type,f.offset)
theorem Y1 : Tryz.prog.underlying 134=some (.struct (vP Tryz.prog 134)):=by kernel_rfl
theorem Y2 : Tryz.prog.underlying 62=some (.struct (vP Tryz.prog 62)):=by kernel_rfl
theorem Tg : Tryz.prog.cellsOf 134=2:=by kernel_rfl
theorem Th : Tryz.prog.cellsOf 62=4:=by kernel_rfl
theorem IW : Tryz.prog.cellsOf 3=1:=by kernel_rfl
theorem Ti : Tryz.prog.cellsOf 32=1:=by kernel_rfl
theorem Y3 : Tryz.prog.cellsOf 60=1:=by kernel_rfl
theorem Y4 : (vP Tryz.prog 134).size=2:=by kernel_rfl
theorem Y5 : (vP Tryz.prog 62).size=4:=by kernel_rfl
theorem Y6 : FZ (vP Tryz.prog 134) 0=some (3,0):=by kernel_rfl
theorem Y7 : FZ (vP Tryz.prog 134) 1=some (32,1):=by kernel_rfl
theorem Y8 : FZ (vP Tryz.prog 62) 0=some (3,0):=by kernel_rfl
theorem Y9 : FZ (vP Tryz.prog 62) 1=some (3,1):=by kernel_rfl
theorem Y_ : FZ (vP Tryz.prog 62) 2=some (60,2):=by kernel_rfl
theorem Za : FZ (vP Tryz.prog 62) 3=some (32,3):=by kernel_rfl
theorem wV {J:Array Field}{i:Nat}{t:TypeId}{o:Nat}(h:FZ J i=some (t,o)): ∃f,J[i]?=some f∧f.type=t∧f.offset=o:=by
 unfold FZ at h
 obtain ⟨f,U,I⟩:=Option.map_eq_some_iff.1 h
 simp only [aP] at I
 exact ⟨f,U,I.1,I.2⟩
def PG (vs:List V)(x:Int×List Nat): ax:=.xs fun u:V=>.an (.pu (vs=[.int .i64 x.1,u])) (.ct u x.2)
theorem aH.PG (vs:List V)(x:Int×List Nat): aH (Am.PG vs x):=aH.xs fun _=>aH.an (aH.pu _) (aH.ct _ _)
def PI (vs:List V)(D:jh): ax:=.xs fun w:V=>.xs fun d:V=>.an (.pu (vs=[.int .i64 D.act,.int .i64 D.cX,w,d])) (ow w d D)
theorem aH.PI (vs:List V)(D:jh): aH (Am.PI vs D):=aH.xs fun _=>aH.xs fun _=>aH.an (aH.pu _) (aH.ow _ _ _)
theorem Tj {α:Type}{l:List α}(h:l.length=2): ∃a b,l=[a,b]:=by
 rcases l with _ | ⟨a,_ | ⟨b,_ | ⟨c,l⟩⟩⟩ <;> simp at h
 exact ⟨a,b,rfl⟩
theorem Tk {α:Type}{l:List α}(h:l.length=4): ∃a b c d,l=[a,b,c,d]:=by
 rcases l with _ | ⟨a,_ | ⟨b,_ | ⟨c,_ | ⟨d,_ | ⟨e,l⟩⟩⟩⟩⟩ <;> simp at h
 exact ⟨a,b,c,d,rfl⟩
theorem ud {α β:Type}{f:α→β}{l:List α}{b:β}(h:l.map f=[b]): ∃a,l=[a]∧f a=b:=by
 rcases l with _ | ⟨a,_ | ⟨c,l⟩⟩
 ·cases h
 ·simp at h; exact ⟨a,rfl,h⟩
 ·simp at h
section
variable {H':Type} {enc:TypeId×Value→H'} {W:World} {fuel B:Nat} {cs:List Value} {x:DataW H'×List MemPlace}
theorem U3 (h:DataW.trod enc Tryz.prog W 0 (fun _=>true) true fuel 134 cs=some x)(hB:Rows.uptoBulk x.1≤B): nQ W cs PG (fun y=>y.2.length≤B):=by
 obtain ⟨xs,n,rfl,rfl,hl,hx,hf⟩:=DataW.trod_struct Y1 h
 rw [Tg] at hl
 rw [Y4] at hx
 obtain ⟨f0,a0,b0,c0⟩:=wV Y6
 obtain ⟨f1,a1,b1,c1⟩:=wV Y7
 have J:=hf 0 f0 a0
 have U:=hf 1 f1 a1
 rw [b0,c0,IW] at J
 rw [b1,c1,Ti] at U
 obtain ⟨v0,v1,rfl⟩:=Tj hl
 obtain ⟨y0,I,rfl⟩:=Tj hx
 have J:DataW.trod enc Tryz.prog W 0 (fun _=>true) true n 3 [v0]=some y0:=J
 have U:DataW.trod enc Tryz.prog W 0 (fun _=>true) true n 32 [v1]=some I:=U
 obtain ⟨m,hm,_,_⟩:=DataW.trod_int bG J
 injection hm with hm _
 subst hm
 have K6:Rows.uptoBulk I.1≤B:=by
  rw [IV] at hB
  have:=nR (l:=[y0.1,I.1]) (d:=I.1) (by simp)
  have e:([y0,I].map (·.1))=[y0.1,I.1]:=rfl
  rw [e] at hB
  omega
 intro c σ S hr
 obtain ⟨c',iJ,vs,l,r1,r2,r3,r4,r5⟩:=E0 U K6 c σ S hr
 obtain ⟨u,rfl,hu⟩:=ud r3
 refine ⟨c',iJ,[.int .i64 m,u],(m,l),r1.sat fun h s=>s.fY fun a b k => ?_,r2,by simp [conc,hu],fun v hv => ?_,r5⟩
 ·obtain ⟨u',e,k⟩:=k
  injection e with e _
  subst e
  exact ⟨u,rfl,k⟩
 ·rcases List.mem_cons.1 hv with rfl | hv
  ·exact ⟨aa,rfl⟩
  ·exact r4 v hv
theorem IX (h:DataW.trod enc Tryz.prog W 0 (fun _=>true) true fuel 60 cs=some x)(I:Rows.uptoBulk x.1≤B): nQ W cs (BS 2 l_) (fun xs=>xs.length≤B∧∀y∈xs,y.2.length≤B) :=
 FY (E:=PG) Dx Tg (by decide) aH.PG (fun l m=>aH.l_ m l) (fun _ _=>trivial) (fun vs x l m a b J U=>by
  obtain ⟨u,e,k⟩:=J
  have e:vs=[.int .i64 x.1,u]:=e
  subst e
  exact ⟨⟨rfl,k⟩,U⟩) (fun n cs y hy hb=>U3 hy hb) h I
theorem U4 (h:DataW.trod enc Tryz.prog W 0 (fun _=>true) true fuel 62 cs=some x)(hB:Rows.uptoBulk x.1≤B): nQ W cs PI (fun D=>D.data.length≤B∧D.w.length≤B∧∀y∈D.w,y.2.length≤B):=by
 obtain ⟨xs,n,rfl,rfl,hl,hx,hf⟩:=DataW.trod_struct Y2 h
 rw [Th] at hl
 rw [Y5] at hx
 obtain ⟨f0,a0,b0,c0⟩:=wV Y8
 obtain ⟨f1,a1,b1,c1⟩:=wV Y9
 obtain ⟨f2,a2,b2,c2⟩:=wV Y_
 obtain ⟨f3,a3,b3,c3⟩:=wV Za
 have h0:=hf 0 f0 a0
 have h1:=hf 1 f1 a1
 have h2:=hf 2 f2 a2
 have h3:=hf 3 f3 a3
 rw [b0,c0,IW] at h0
 rw [b1,c1,IW] at h1
 rw [b2,c2,Y3] at h2
 rw [b3,c3,Ti] at h3
 obtain ⟨v0,v1,v2,v3,rfl⟩:=Tk hl
 obtain ⟨y0,y1,I,J,rfl⟩:=Tk hx
 have h0:DataW.trod enc Tryz.prog W 0 (fun _=>true) true n 3 [v0]=some y0:=h0
 have h1:DataW.trod enc Tryz.prog W 0 (fun _=>true) true n 3 [v1]=some y1:=h1
 have h2:DataW.trod enc Tryz.prog W 0 (fun _=>true) true n 60 [v2]=some I:=h2
 have h3:DataW.trod enc Tryz.prog W 0 (fun _=>true) true n 32 [v3]=some J:=h3
 obtain ⟨m0,U,_,_⟩:=DataW.trod_int bG h0
 injection U with U _
 subst U
 obtain ⟨m1,yu,_,_⟩:=DataW.trod_int bG h1
 injection yu with yu _
 subst yu
 rw [IV] at hB
 have e:([y0,y1,I,J].map (·.1))=[y0.1,y1.1,I.1,J.1]:=rfl
 rw [e] at hB
 have XS:Rows.uptoBulk I.1≤B:=by
  have:=nR (l:=[y0.1,y1.1,I.1,J.1]) (d:=I.1) (by simp)
  omega
 have XT:Rows.uptoBulk J.1≤B:=by
  have:=nR (l:=[y0.1,y1.1,I.1,J.1]) (d:=J.1) (by simp)
  omega
 intro c σ S hr
 obtain ⟨c1,R1,vs1,l,r1,r2,r3,r4,r5⟩:=E0 h3 XT c σ S hr
 obtain ⟨d,rfl,hd⟩:=ud r3
 obtain ⟨c2,XQ,vs2,ws,t1,t2,t3,t4,t5⟩:=IX h2 XS c1 R1 _ r1
 obtain ⟨w,rfl,hw⟩:=ud t3
 obtain ⟨q1,q2⟩:=cu t2 d (r4 d (by simp)).1
 refine ⟨c2,XQ,[.int .i64 m0,.int .i64 m1,w,d],⟨m0,m1,ws,l⟩,t1.sat fun h s=>s.two (aH.BS (fun l m=>aH.l_ m l) _ _) (aH.Te _ _) fun a b k1 k2 => ?_,r2.trans t2,by simp [conc,hw,q1,hd],fun v hv => ?_,r5,t5⟩
 ·obtain ⟨w',cs,e1,k1⟩:=k1
  obtain ⟨d',e2,k2⟩:=k2
  have e1:[w]=[w']:=e1
  have e2:[d]=[d']:=e2
  injection e1 with e1 _
  injection e2 with e2 _
  subst e1
  subst e2
  exact ⟨w,d,rfl,⟨cs,k1⟩,k2⟩
 ·simp only [fo,mo,rD] at hv
  rcases hv with rfl | rfl | rfl | rfl
  ·exact ⟨aa,rfl⟩
  ·exact ⟨aa,rfl⟩
  ·exact t4 _ (by simp)
  ·exact ⟨q2,(r4 _ (by simp)).2⟩
theorem R3 (h:DataW.trod enc Tryz.prog W 0 (fun _=>true) true fuel 56 cs=some x)(I:Rows.uptoBulk x.1≤B): nQ W cs (BS 4 jS) (fun xs=>xs.length≤B∧∀D∈xs,D.data.length≤B∧D.w.length≤B∧∀y∈D.w,y.2.length≤B) :=
 FY (E:=PI) Ay Th (by decide) aH.PI (fun l m=>aH.jS m l) (fun _ _=>trivial) (fun vs x l m a b J U=>by
  obtain ⟨w,d,e,k⟩:=J
  have e:vs=[.int .i64 x.act,.int .i64 x.cX,w,d]:=e
  subst e
  exact ⟨⟨⟨rfl,rfl⟩,k⟩,U⟩) (fun n cs y hy hb=>U4 hy hb) h I
end
end Go.Proofs.YtconhghphklfjaaGreat.Am
namespace Go.Proofs.YtconhghphklfjaaGreat.Am
open Go Go.ChangeShapes Go.WideShapes Go.ChangeAt Go.RowKit
noncomputable def Gu (f:Nat): Option (List V→H→Option (V×H)) :=
 cond (Nat.beq f 101) (some (nK Tryz.prog 101 Gs)) (DJ f)
noncomputable abbrev CE : dF:=⟨Tryz.prog,Gu⟩
theorem R4 : W4 Gu:=by
 refine ⟨⟨⟨⟨fun f I => ?_,rfl,rfl⟩,rfl,rfl⟩,toldAw,rfl,fun _=>rfl⟩,rfl⟩
 have J:f≠101:=fun e=>by subst e; revert I; decide
 simp only [Gu,cS J,ay]
 exact RY.w.w.free f I
theorem IY : hG CE:=by
 intro f g I
 simp only [CE,Gu] at I ⊢
 by_cases J:f=101
 ·subst J
  rw [g9 rfl,ag] at I
  simp only [au] at I
  subst I
  exact Af ⟨_,Ir,rfl,by decide⟩
 ·rw [cS J,ay] at I
  exact RZ f g I
theorem hO.okE {f:FuncId}{args:List V}{h h':H}{v:V}(J:hO CE f args h v h'){c:Ctx}{w:World}(I:Rel c h w)(hw:∀x∈args,wf c x): fX Tryz.prog f args c w v h':=by
 obtain ⟨N,U⟩:=J
 exact (w_ (C:=CE) (Ge ic IY N).1 IY U I hw).1
end Go.Proofs.YtconhghphklfjaaGreat.Am
namespace Go.Proofs.YtconhghphklfjaaGreat.Am
open Go Go.ChangeShapes Go.WideShapes Go.ChangeAt Go.RowKit
theorem PJ {H':Type}{enc:TypeId×Value→H'}{W:World}{J U Zb:Nat}{x1 x2 x3:DataW H'×List MemPlace}{v0 v1 v2:Value}{n0:Int}(h1:DataW.trod enc Tryz.prog W 0 (fun _=>true) true J 56 [v0]=some x1)(K6:Rows.uptoBulk x1.1≤1048576)
 (h2:DataW.trod enc Tryz.prog W 0 (fun _=>true) true U 60 [v1]=some x2)(XS:Rows.uptoBulk x2.1≤1048576)
 (h3:DataW.trod enc Tryz.prog W 0 (fun _=>true) true Zb 32 [v2]=some x3)(XT:Rows.uptoBulk x3.1≤1048576):
  Calls Tryz.prog 10 #[v0,v1,.int .i64 n0,v2] W fun e w'=>e=.returned (.bool true)∧W.keptBut w' (fun _=>False)∧W.heap.size≤w'.heap.size∧∀b,b<W.heap.size→w'.heap[b]?=W.heap[b]?:=by
 obtain ⟨c0,σ0,h0⟩:=Az.zero W
 obtain ⟨c1,R1,vs1,L,oR,_,yu,abz,hL,hD⟩:=R3 h1 K6 c0 σ0 [] h0
 obtain ⟨lv,rfl,hlv⟩:=ud yu
 obtain ⟨c2,XQ,vs2,Mw,yX,Zc,Na,abA,hM⟩:=IX h2 XS c1 R1 _ oR
 obtain ⟨mv,rfl,XJ⟩:=ud Na
 obtain ⟨c,σ,vs3,ch,hr,I,hm3,abB,_⟩:=E0 h3 XT c2 XQ _ yX
 obtain ⟨cv,rfl,M7⟩:=ud hm3
 have hw0:=cu Zc lv (abz lv (by simp)).1
 have yS:=cu I lv hw0.2
 have sE:=cu I mv (abA mv (by simp)).1
 obtain ⟨cv',s⟩:=gu.1 hr.2.2
 have s0:=s
 obtain ⟨_,_,_,_,hk⟩:=s0.at (k:=0) rfl
 have e:[cv]=[cv']:=hk.1
 injection e with e _
 subst e
 have s:=s.fY (B:=.ct cv ch) fun _ _ k=>k.2
 obtain ⟨mv',s⟩:=gu.1 (s.ae [1])
 obtain ⟨ms,s⟩:=gu.1 s
 have s0:=s
 obtain ⟨_,_,_,_,hk⟩:=s0.at (k:=0) rfl
 have e:[mv]=[mv']:=hk.1
 injection e with e _
 subst e
 have s:=((s.fY (B:=.an (iL 2 mv ms) (l_ ms Mw)) fun _ _ k=>k.2).dup (aH.an (aH.iL _ _ _) (aH.l_ _ _))).fY (B:=iL 2 mv ms) (fun _ _ k=>k.1) |>.ae [1] |>.fY (B:=l_ ms Mw) (fun _ _ k=>k.2) |>.ae [1]
 have s:Sat σ (iL 2 mv ms::l_ ms Mw::.ct cv ch::BS 4 jS [lv] L::[]):=s
 obtain ⟨lv',s⟩:=gu.1 (s.ae [3])
 obtain ⟨cs,s⟩:=gu.1 s
 have s0:=s
 obtain ⟨_,_,_,_,hk⟩:=s0.at (k:=0) rfl
 have e:[lv]=[lv']:=hk.1
 injection e with e _
 subst e
 have s1:=((s.fY (B:=.an (iL 4 lv cs) (jS cs L)) fun _ _ k=>k.2).dup (aH.an (aH.iL _ _ _) (aH.jS _ _))).fY (B:=iL 4 lv cs) (fun _ _ k=>k.1) |>.ae [1] |>.fY (B:=jS cs L) (fun _ _ k=>k.2) |>.ae [1]
 obtain ⟨v',h',CK,rfl⟩:=U2 R4 (ch:=ch) (cv:=cv) (mv:=mv) (ms:=ms) (n0:=n0) hD hL hM s1
 have kV:=CK.okE hr.1 (fun x hx=>by
  rcases List.mem_cons.1 hx with rfl | hx
  ·exact yS.2
  ·rcases List.mem_cons.1 hx with rfl | hx
   ·exact sE.2
   ·rcases List.mem_cons.1 hx with rfl | hx
    ·exact aa
    ·rw [List.mem_singleton.1 hx]; exact (abB cv (by simp)).1)
 unfold fX at kV
 have ea:(([lv,mv,.int .i64 n0,cv].map (conc c)).toArray) = #[v0,v1,.int .i64 n0,v2]:=by simp [conc,yS.1,hw0.1,sE.1,hlv,XJ,M7]
 rw [ea] at kV
 refine Calls.mono kV ?_
 rintro e w' ⟨c',rfl,_,_,hs⟩
 obtain ⟨k1,k2,k3⟩:=JU hr.2.1 hs
 exact ⟨by simp [conc],k1,k2,k3⟩
end Go.Proofs.YtconhghphklfjaaGreat.Am
namespace Go.Proofs.YtconhghphklfjaaGreat.AtomTorn
open Go.ChangeShapes Go.WideShapes Go.ChangeAt Go.RowKit
theorem own : ownKnob Tryz.prog.godebug=none:=by kernel_rfl
theorem laid : laidOutB Tryz.prog=true:=by kernel_rfl
theorem MF : Tryz.prog.readableRec 56=true:=by kernel_rfl
theorem row : (56:TypeId)<Tryz.prog.types.size:=of_decide_eq_true (by kernel_rfl)
theorem Tl : Tryz.prog.readableRec 60=true:=by kernel_rfl
theorem abC : (60:TypeId)<Tryz.prog.types.size:=of_decide_eq_true (by kernel_rfl)
theorem Tm : Tryz.prog.readableRec 32=true:=by kernel_rfl
theorem abD : (32:TypeId)<Tryz.prog.types.size:=of_decide_eq_true (by kernel_rfl)
set_option maxRecDepth 100000 in
theorem R5 (H:Type)(enc:TypeId×Value→H)(W:World)(base:Nat)(args:Array Value)(ds gs:List (DataW H))(before:List MemPlace)
 (I:∀(j:Nat) t v,Tryz.f10.params[j]?=some t→args[j]?=some v→Value.okWide Tryz.prog W .any base t v)
 (hW:DataW.Whole enc Tryz.prog Tryz.f10.params.toList Rows.atomTornSpec.vars false W args.toList ds gs before)(hk:Rows.uptoBulkAll (ds++gs)≤1048576):
  Calls Tryz.prog 10 args W fun e W'=>∃v,e=.returned v∧Rows.atomTornSpec.post enc Tryz.prog Tryz.f10 false true false false W args v W':=by
 have Tn:=hW
 obtain ⟨p,q,hA0,hV,rfl,wu,nk⟩:=hW
 have hA:DataW.TrodAll enc Tryz.prog W 0 (fun _=>true) true Tryz.f10.params.toList args.toList ds p:=hA0
 rw [Tryz.params10] at hA I
 obtain ⟨v0,vs0,d0,ds0,p0,q0,SL,rfl,rfl,h0,r0⟩:=trodAll_cons hA
 obtain ⟨vw,vsw,dw,dsw,pw,qw,rfl,rfl,rfl,U,rw0⟩:=trodAll_cons r0
 obtain ⟨vi,vsi,di,dsi,pi,qi,rfl,rfl,rfl,hi,ri⟩:=trodAll_cons rw0
 obtain ⟨v1,vs1,d1,ds1,p1,q1,rfl,rfl,rfl,h1,r1⟩:=trodAll_cons ri
 obtain ⟨rfl,rfl,rfl⟩:=trodAll_nil r1
 obtain rfl:args = #[v0,vw,vi,v1]:=by cases args; simp_all
 obtain ⟨rfl,rfl⟩:=trodVars_none hV
 obtain ⟨a0,rfl,rfl,rfl,w0⟩:=open_int Tryz.underlying3 (I 2 3 vi rfl rfl) hi
 obtain ⟨To,h0⟩:=h0
 obtain ⟨Tp,U⟩:=U
 have XU:vw.cells.toList=[vw]:=by
  have:=I 1 60 vw rfl rfl
  simp only [Value.okWide,Tryz.underlying60,Cell.okWide,Cell.ok] at this
  split at this <;> first | rfl | exact this.elim
 have abE:=U
 rw [XU] at U
 obtain ⟨fuel,h1⟩:=h1
 have XV:v0.cells.toList=[v0]:=by
  have:=I 0 56 v0 rfl rfl
  simp only [Value.okWide,Tryz.underlying56,Cell.okWide,Cell.ok] at this
  split at this <;> first | rfl | exact this.elim
 have AY:v1.cells.toList=[v1]:=by
  have:=I 3 32 v1 rfl rfl
  simp only [Value.okWide,Tryz.underlying32,Cell.okWide,Cell.ok] at this
  split at this <;> first | rfl | exact this.elim
 have h0':=h0
 rw [XV] at h0
 have OV:=h1
 rw [AY] at h1
 have Bp:Rows.uptoBulk d0≤1048576:=by
  have:=Am.nR (l:=([d0,dw,DataW.lit (Lit.int .i64 a0),d1]++([]:List (DataW H)))) (d:=d0) (by simp)
  exact Nat.le_trans this hk
 have hbw:Rows.uptoBulk dw≤1048576:=by
  have:=Am.nR (l:=([d0,dw,DataW.lit (Lit.int .i64 a0),d1]++([]:List (DataW H)))) (d:=dw) (by simp)
  exact Nat.le_trans this hk
 have hb:Rows.uptoBulk d1≤1048576:=by
  have:=Am.nR (l:=([d0,dw,DataW.lit (Lit.int .i64 a0),d1]++([]:List (DataW H)))) (d:=d1) (by simp)
  exact Nat.le_trans this hk
 refine (Am.PJ (n0:=a0) h0 Bp U hbw h1 hb).mono fun e W' ⟨he,hg,hs,Tq⟩ => ?_
 subst he
 have bV:∀x∈p1,x.block<W.heap.size:=fun x J=>Tn.lt x (by simp [J])
 have XW:∀x∈pw,x.block<W.heap.size:=fun x J=>Tn.lt x (by simp [J])
 have XX:∀x∈p0,x.block<W.heap.size:=fun x J=>Tn.lt x (by simp [J])
 have cX:∀ {p:List MemPlace},(∀x∈p,x.block<W.heap.size)→∀x∈p,match x with | .cell b off=>W'.cell? ⟨b,off,none⟩=W.cell? ⟨b,off,none⟩ | .map b=>W'.heap[b]?=W.heap[b]?:=fun hp x J=>by
  have hl:=hp x J
  cases x with
  | cell b off =>
   show W'.cell? ⟨b,off,none⟩=W.cell? ⟨b,off,none⟩
   unfold World.cell?
   rw [Tq b hl]
  | map b=>exact Tq b hl
 have XY:DataW.trod enc Tryz.prog W' 0 (fun b=>decide (b<W.heap.size)) true To 56 v0.cells.toList=some (d0,p0) :=
  DataW.trod_stays (kids_book laid MF) (book_sized MF) (fun h=>by cases h) ⟨row,book_self _⟩ h0' (cX XX) (fun x J=>by simpa using XX x J)
 have XZ:DataW.trod enc Tryz.prog W' 0 (fun b=>decide (b<W.heap.size)) true Tp 60 vw.cells.toList=some (dw,pw) :=
  DataW.trod_stays (kids_book laid Tl) (book_sized Tl) (fun h=>by cases h) ⟨abC,book_self _⟩ abE (cX XW) (fun x J=>by simpa using XW x J)
 have Zd:DataW.trod enc Tryz.prog W' 0 (fun b=>decide (b<W.heap.size)) true fuel 32 v1.cells.toList=some (d1,p1) :=
  DataW.trod_stays (kids_book laid Tm) (book_sized Tm) (fun h=>by cases h) ⟨abD,book_self _⟩ OV (cX bV) (fun x J=>by simpa using bV x J)
 exact ⟨_,rfl,⟨_,[],_,[],_,[],Tn,trodAll_cons_mk (shut_bool Tryz.underlying4 _) trodAll_mk0,trodAll_cons_mk ⟨To,XY⟩ (trodAll_cons_mk ⟨Tp,XZ⟩ (trodAll_cons_mk (shut_int Tryz.underlying3 w0) (trodAll_cons_mk ⟨fuel,Zd⟩ trodAll_mk0))),rfl,World.keptBut_mono (fun _ f=>f.elim) hg,fun h=>by cases h⟩⟩
set_option maxRecDepth 100000 in
theorem lifted (os:Os)(started:os.Started)(H:Type)(enc:TypeId×Value→H)(F:Stop.Interp):
  ReturnsInHanded {} Tryz.checked os 10 .any ((Rows.OpenSpec.upto Rows.atomTornSpec).pre6 enc Tryz.prog Tryz.f10 Rows.atomTornUptoRow.domain false) (((Rows.OpenSpec.upto Rows.atomTornSpec).at F).post enc Tryz.prog Tryz.f10 false true false false):=by
 refine returnsInHanded_of_cond (C:=Tryz.checked) (s:=Rows.OpenSpec.upto Rows.atomTornSpec) (k:=Rows.uptoSmall) rfl own started (by kernel_rfl) Tryz.func10
  (OpenSpec.witness (enc:=enc) (C:=Tryz.checked) (s:=Rows.OpenSpec.upto Rows.atomTornSpec) (k:=Rows.uptoSmall) rfl false ⟨#[], #[.slice none 0 0,.slice none 0 0,.int .i64 0,.slice none 0 0],[]⟩ 8 (by kernel_rfl) (by kernel_rfl) (by kernel_rfl)
   (x:=([.nil,.nil,.lit (.int .i64 0),.nil],[],[])) (by kernel_rfl) rfl (by kernel_rfl)) ?_
 intro W base args ds gs before I J _ U _
 exact R5 H enc W base args ds gs before I J (of_decide_eq_true U)
theorem b9 : Rows.atomTornUptoRow.holds Tryz.pinned (Rows.OpenSpec.upto Rows.atomTornSpec) :=
 OpenClaim.holds_of_cond 10 Tryz.f10 rfl rfl rfl rfl rfl rfl rfl ⟨rfl,rfl,rfl,rfl,rfl⟩ rfl rfl rfl rfl rfl (by kernel_rfl) Tryz.func10 (by kernel_rfl)
  (of_decide_eq_true (by kernel_rfl)) (by unfold Func.isWrapper; first | (rw [if_pos (by decide +kernel)]; kernel_rfl) | (rw [if_neg (by decide +kernel)]; exact ⟨rfl,rfl⟩))
  (fun os started H enc _ F=>lifted os started H enc F)
theorem proved : Rows.AtomTornUptoSaid :=
 b9
#print axioms proved
end Go.Proofs.YtconhghphklfjaaGreat.AtomTorn
