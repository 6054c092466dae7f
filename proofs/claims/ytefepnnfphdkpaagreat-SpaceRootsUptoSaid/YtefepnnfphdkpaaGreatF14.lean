/- SpaceRoots: a part of its proof; conditions: its statement's. -/
import Derived.Test.YtefepnnfphdkpaaGreatF13
namespace Go.Proofs.YtefepnnfphdkpaaGreat.Am
open Go
abbrev PM := Nat→Option Obj
def PM.le (a b:PM): Prop:=∀i o,a i=some o→b i=some o
def PM.dj (a b:PM): Prop:=∀i,a i=none∨b i=none
def PM.upd (m:PM)(id:Nat)(o:Option Obj): PM:=fun i=>if i=id then o else m i
def PM.un (a b:PM): PM:=fun i=>(a i).orElse fun _=>b i
theorem PM.le_refl (a:PM): a.le a:=fun _ _ h=>h
theorem PM.le_trans {a b c:PM}(x:a.le b)(y:b.le c): a.le c:=fun i o h=>y i o (x i o h)
theorem PM.nC {a b I J:PM}(hd:a.dj b)(ha:I.le a)(hb:J.le b): I.dj J:=by
 intro i
 rcases hd i with h | h
 ·left
  cases h1:I i with
  | none=>rfl
  | some o=>rw [ha i o h1] at h; cases h
 ·right
  cases h1:J i with
  | none=>rfl
  | some o=>rw [hb i o h1] at h; cases h
theorem PM.pn {a b:PM}(h:a.dj b): b.dj a:=fun i=>(h i).symm
theorem PM.Hu (a b:PM): a.le (a.un b):=fun i o h=>by simp [PM.un,h]
theorem PM.Hv {a b:PM}(J:a.dj b): b.le (a.un b):=fun i o h=>by
 rcases J i with I | I
 ·simp [PM.un,I,h]
 ·rw [h] at I; cases I
theorem PM.CX {a b c:PM}(J:a.le c)(hb:b.le c): (a.un b).le c:=fun i o h=>by
 simp only [PM.un] at h
 cases I:a i with
 | none=>rw [I] at h; exact hb i o h
 | some x=>rw [I] at h; injection h with h; subst h; exact J i _ I
theorem PM.CY {a b c:PM}(J:a.dj c)(hb:b.dj c): (a.un b).dj c:=fun i=>by
 rcases J i with h | h
 ·rcases hb i with I | I
  ·left; simp [PM.un,h,I]
  ·right; exact I
 ·right; exact h
def ie (m:PM)(v:V)(l:List Nat): Prop:=(∀b∈l,b<256)∧(((v=.bw∨∃a,v=.sle a)∧l=[]) ∨
 ∃id off cap n cs st,v=.sl id off l.length cap∧m id=some (.cells n cs st)∧cs.length=n∧off+l.length≤n∧(cs.drop off).take l.length=ofBytes l ∧
  (match cap with | .exact c=>l.length≤c | .rest e _=>e=1))
def sj (m:PM)(v:V)(l:List Nat): Prop:=(∀b∈l,b<256)∧((v=.bw∧l=[]) ∨
 (∃id cs c,v=.sl id 0 l.length (.exact c)∧m id=some (.cells c (ofBytes l++cs) false)∧l.length+cs.length=c) ∨
 (∃id,v=.sl id 0 l.length (.rest 1 0)∧m id=some (.cells l.length (ofBytes l) false)∧1≤l.length))
theorem ie.up {m m':PM}{v:V}{l:List Nat}(h:ie m v l)(hm:PM.le m m'): ie m' v l:=by
 obtain ⟨J,I⟩:=h
 refine ⟨J,?_⟩
 rcases I with I | ⟨id,off,cap,n,cs,st,e,hg,h3⟩
 ·exact .inl I
 ·exact .inr ⟨id,off,cap,n,cs,st,e,hm _ _ hg,h3⟩
theorem sj.up {m m':PM}{v:V}{l:List Nat}(h:sj m v l)(hm:PM.le m m'): sj m' v l:=by
 obtain ⟨h1,I⟩:=h
 refine ⟨h1,?_⟩
 rcases I with I | ⟨id,cs,c,e,J,h3⟩ | ⟨id,e,J,h3⟩
 ·exact .inl I
 ·exact .inr (.inl ⟨id,cs,c,e,hm _ _ J,h3⟩)
 ·exact .inr (.inr ⟨id,e,hm _ _ J,h3⟩)
theorem sj.view {m:PM}{v:V}{l:List Nat}(I:sj m v l): ie m v l:=by
 obtain ⟨hl,I⟩:=I
 refine ⟨hl,?_⟩
 rcases I with I | ⟨id,cs,c,rfl,J,hc⟩ | ⟨id,rfl,J,h1⟩
 ·exact .inl ⟨.inl I.1,I.2⟩
 ·refine .inr ⟨id,0,.exact c,c,_,false,rfl,J,by simp [c7,hc],by omega,?_,by show l.length≤c; omega⟩
  rw [eu,ke (c7 l)]
 ·refine .inr ⟨id,0,.rest 1 0,_,_,false,rfl,J,c7 l,by omega,?_,rfl⟩
  rw [eu]
  exact dO (by rw [c7]; exact aD _)
def Hw (m:PM)(k:Nat)(v:V)(cs:List V): Prop:=cs.all storable=true∧((v=.bw∧cs=[]) ∨
 ∃id n cap N rest,v=.sl id 0 n cap∧m id=some (.cells N (cs++rest) false)∧cs.length=n*k∧cs.length+rest.length=N∧rest.all storable=true ∧
  (match cap with | .exact c=>N=c*k∧n≤c | .rest e alt=>e=k∧alt=0∧rest=[]∧1≤n))
theorem Hw.up {m m':PM}{k:Nat}{v:V}{cs:List V}(h:Hw m k v cs)(hm:PM.le m m'): Hw m' k v cs:=by
 obtain ⟨J,I⟩:=h
 refine ⟨J,?_⟩
 rcases I with I | ⟨id,n,cap,N,rest,e,hg,h3⟩
 ·exact .inl I
 ·exact .inr ⟨id,n,cap,N,rest,e,hm _ _ hg,h3⟩
inductive au : Type 1 where
 | pt (id:Nat) (o:Obj)
 | ro (id:Nat) (o:Obj)
 | pu (φ:Prop)
 | buf (v:V) (l:List Nat)
 | cx (v:V) (l:List Nat)
 | WA (v:V) (l:List Nat)
 | arr (k:Nat) (v:V) (cs:List V)
 | an (A B:au)
 | xs {α:Type} (f:α→au)
 | all {α:Type} (f:α→au)
 | se (A B:au)
abbrev pt := au.pt
abbrev ro := au.ro
abbrev pu := au.pu
abbrev xs {α:Type}(f:α→au): au:=au.xs f
abbrev aZ := au.buf
abbrev BB := au.cx
abbrev cU := au.WA
def au.p : au→PM→PM→Prop
 | .pt id o,m,_=>m id=some o
 | .ro id o,_,r=>r id=some o
 | .pu φ,_,_=>φ
 | .buf v l,m,_=>sj m v l
 | .cx v l,_,r=>ie r v l
 | .WA v l,m,r=>ie m v l∨ie r v l
 | .arr k v cs,m,_=>Hw m k v cs
 | .an A B,m,r=>A.p m r∧B.p m r
 | .xs f,m,r=>∃x,(f x).p m r
 | .all f,m,r=>∀x,(f x).p m r
 | .se A B,m,r=>∃a b,PM.dj a b∧PM.le a m∧PM.le b m∧A.p a r∧B.p b r
theorem au.mono : ∀(A:au) (m m' r J:PM),PM.le m m'→PM.le r J→A.p m r→A.p m' J:=by
 intro A
 induction A with
 | pt id o=>intro m m' r J hm I h; exact hm _ _ h
 | ro id o=>intro m m' r J hm I h; exact I _ _ h
 | pu φ=>intro m m' r J hm I h; exact h
 | buf v l=>intro m m' r J hm I h; exact sj.up h hm
 | cx v l=>intro m m' r J hm I h; exact ie.up h I
 | WA v l =>
  intro m m' r J hm I h
  rcases h with h | h
  ·exact .inl (ie.up h hm)
  ·exact .inr (ie.up h I)
 | arr k v cs=>intro m m' r J hm I h; exact Hw.up h hm
 | an A B ia ib=>intro m m' r J hm I h; exact ⟨ia _ _ _ _ hm I h.1,ib _ _ _ _ hm I h.2⟩
 | xs f ih=>intro m m' r J hm I h; obtain ⟨x,hx⟩:=h; exact ⟨x,ih x _ _ _ _ hm I hx⟩
 | all f ih=>intro m m' r J hm I h x; exact ih x _ _ _ _ hm I (h x)
 | se A B ia ib =>
  intro m m' r J hm I h
  obtain ⟨a,b,h1,h2,h3,h4,h5⟩:=h
  exact ⟨a,b,h1,PM.le_trans h2 hm,PM.le_trans h3 hm,ia _ _ _ _ (PM.le_refl _) I h4,ib _ _ _ _ (PM.le_refl _) I h5⟩
def star : List au→au
 | []=>.pu True
 | A::L=>.se A (star L)
theorem au.up {A:au}{m m' r I:PM}(h:A.p m r)(hm:m.le m')(J:r.le I): A.p m' I:=A.mono m m' r I hm J h
def cT (A B:au): Prop:=∀m r,A.p m r→B.p m r
def aW (A:au): Prop:=∀m r,A.p m r→A.p (fun _=>none) r
theorem aW.ro (id:Nat)(o:Obj): aW (.ro id o):=fun _ _ h=>h
theorem aW.pu (φ:Prop): aW (.pu φ):=fun _ _ h=>h
theorem aW.xs {α:Type}{f:α→au}(h:∀x,aW (f x)): aW (.xs f):=fun m r ⟨x,I⟩=>⟨x,h x m r I⟩
theorem aW.an {A B:au}(I:aW A)(J:aW B): aW (.an A B):=fun m r h=>⟨I m r h.1,J m r h.2⟩
def getA : List au→Nat→Option au
 | [],_=>none
 | A::_,0=>some A
 | _::L,k+1=>getA L k
theorem m4 {S:List au}{k:Nat}{X A:au}(I:getA S k=some X): getA (A::S) (k+1)=some X:=I
def setA : List au→Nat→au→List au
 | [],_,_=>[]
 | _::L,0,B=>B::L
 | A::L,k+1,B=>A::setA L k B
def aQ : List au→Nat→List au
 | [],_=>[]
 | _::L,0=>L
 | A::L,k+1=>A::aQ L k
def bringA (S:List au): List Nat→List au
 | []=>S
 | k::ks=>match getA S k with
  | some A=>A::bringA (aQ S k) ks
  | none=>[]
def L8 (k:Nat): List Nat→Nat
 | []=>0
 | x::l=>cond (Nat.blt x k) (L8 k l+1) (L8 k l)
def WB : List Nat→List Nat→List Nat
 | _,[]=>[]
 | seen,k::ks=>(k-L8 k seen)::WB (k::seen) ks
theorem Oh {A B:au}{L:List au}{m r:PM}(h:(star (A::B::L)).p m r): (star (B::A::L)).p m r:=by
 obtain ⟨a,b,h1,h2,h3,h4,c,d,g1,g2,g3,g4,g5⟩:=h
 have J:a.dj c:=PM.nC h1 (PM.le_refl _) g2
 have I:a.dj d:=PM.nC h1 (PM.le_refl _) g3
 exact ⟨c,a.un d,PM.pn (PM.CY J (PM.pn g1)),PM.le_trans g2 h3,PM.CX h2 (PM.le_trans g3 h3),g4,a,d,I,PM.Hu _ _,PM.Hv I,h4,g5⟩
theorem yX {A:au}{L I:List au}(h:∀m r,(star L).p m r→(star I).p m r){m r:PM}(hs:(star (A::L)).p m r): (star (A::I)).p m r:=by
 obtain ⟨a,b,J,h2,h3,h4,h5⟩:=hs
 exact ⟨a,b,J,h2,h3,h4,h _ _ h5⟩
theorem yY : ∀ {S:List au} {k:Nat} {A:au},getA S k=some A→∀m r,(star S).p m r→(star (A::aQ S k)).p m r:=by
 intro S
 induction S with
 | nil=>intro k A h; cases h
 | cons B S I =>
  intro k A h m r hs
  cases k with
  | zero=>simp only [getA] at h; injection h with h; subst h; exact hs
  | succ k =>
   simp only [getA] at h
   exact Oh (yX (I h) hs)
theorem yZ {A:au}{L:List au}{m r:PM}(h:(star (A::L)).p m r): (star L).p m r:=by
 obtain ⟨a,b,h1,h2,I,h4,J⟩:=h
 exact au.up J I (PM.le_refl _)
theorem Oi {A:au}{L:List au}{m r:PM}(h:(star (A::L)).p m r): A.p m r:=by
 obtain ⟨a,b,h1,I,h3,J,h5⟩:=h
 exact au.up J I (PM.le_refl _)
theorem CZ : ∀(ks:List Nat) (S:List au) (m r:PM),(star S).p m r→(bringA S ks=[]∨True)→(star (bringA S ks)).p m r:=by
 intro ks
 induction ks with
 | nil=>intro S m r h _; exact h
 | cons k ks I =>
  intro S m r h _
  simp only [bringA]
  cases J:getA S k with
  | none=>trivial
  | some A=>exact yX (fun m r h=>I _ m r h (.inr aa)) (yY J m r h)
theorem Hx {L S:List au}: ∀m r,(star (star L::S)).p m r↔(star (L++S)).p m r:=by
 induction L with
 | nil =>
  intro m r
  constructor
  ·intro h; exact yZ h
  ·intro h; exact ⟨fun _=>none,m,fun _=>.inl rfl,fun _ _ h=>(by cases h),PM.le_refl _,aa,h⟩
 | cons A L ih =>
  intro m r
  constructor
  ·rintro ⟨a,b,J,h2,h3,⟨c,d,g1,g2,g3,g4,g5⟩,h5⟩
   have I:c.dj b:=PM.nC J g2 (PM.le_refl _)
   have Ft:d.dj b:=PM.nC J g3 (PM.le_refl _)
   exact ⟨c,d.un b,PM.pn (PM.CY (PM.pn g1) (PM.pn I)),PM.le_trans g2 h2,PM.CX (PM.le_trans g3 h2) h3,g4,(ih _ _).1 ⟨d,b,Ft,PM.Hu _ _,PM.Hv Ft,g5,h5⟩⟩
  ·rintro ⟨c,e,J,h2,h3,h4,h5⟩
   obtain ⟨d,b,g1,g2,g3,g4,g5⟩:=(ih _ _).2 h5
   have qa:c.dj d:=PM.nC J (PM.le_refl _) g2
   have I:c.dj b:=PM.nC J (PM.le_refl _) g3
   exact ⟨c.un d,b,PM.CY I g1,PM.CX h2 (PM.le_trans g2 h3),PM.le_trans g3 h3,⟨c,d,qa,PM.Hu _ _,PM.Hv qa,h4,g4⟩,g5⟩
structure Sat (h:H)(S:List au): Prop where
 wf:lX h
 ok:∃m r,PM.le m (T.get h.tr)∧PM.le r (T.get h.tr)∧PM.dj m r∧(star S).p m r
section
variable {h h':H} {S:List au} {A B:au}
theorem Sat.map {S':List au}(s:Sat h S)(I:∀m r,(star S).p m r→(star S').p m r): Sat h S':=by
 obtain ⟨m,r,J,h2,h3,h4⟩:=s.ok
 exact ⟨s.wf,m,r,J,h2,h3,I _ _ h4⟩
theorem Sat.at {k:Nat}(s:Sat h S)(I:getA S k=some A): ∃m r,PM.le m (T.get h.tr)∧PM.le r (T.get h.tr)∧A.p m r:=by
 obtain ⟨m,r,J,h2,h3,h4⟩:=s.ok
 exact ⟨m,r,J,h2,Oi (yY I m r h4)⟩
theorem Sat.take (k:Nat)(s:Sat h S)(I:getA S k=some A): Sat h (A::aQ S k):=s.map (yY I)
theorem Sat.qb (ks:List Nat)(s:Sat h S): Sat h (bringA S (WB [] ks)):=s.map fun m r h=>CZ _ S m r h (.inr aa)
theorem Sat.ae (ks:List Nat)(s:Sat h S): Sat h (bringA S ks):=s.map fun m r h=>CZ _ S m r h (.inr aa)
theorem Sat.drop (s:Sat h (A::S)): Sat h S:=s.map fun _ _ h=>yZ h
theorem Q0 : ∀(S:List au) (k:Nat) (m r:PM),(star S).p m r→(star (aQ S k)).p m r:=by
 intro S
 induction S with
 | nil=>intro k m r h; exact h
 | cons B S I =>
  intro k m r h
  cases k with
  | zero=>exact yZ h
  | succ k=>exact yX (I k) h
theorem Sat.del (k:Nat)(s:Sat h S): Sat h (aQ S k):=s.map (Q0 S k)
theorem Sat.hO (s:Sat h (A::S))(he:cT A B): Sat h (B::S):=s.map fun m r ⟨a,b,I,J,h3,h4,h5⟩=>⟨a,b,I,J,h3,he _ _ h4,h5⟩
theorem Sat.dup (s:Sat h (A::S))(J:aW A): Sat h (A::A::S):=s.map fun m r hs=>by
 obtain ⟨a,b,h1,h2,h3,I,h5⟩:=hs
 exact ⟨fun _=>none,m,fun _=>.inl rfl,fun _ _ h=>(by cases h),PM.le_refl _,J _ _ I,a,b,h1,h2,h3,I,h5⟩
theorem Sat.gA {φ:Prop}(s:Sat h S)(I:φ): Sat h (pu φ::S):=s.map fun m _ hs=>⟨fun _=>none,m,fun _=>.inl rfl,fun _ _ h=>(by cases h),PM.le_refl _,I,hs⟩
theorem Sat.two {C:au}(s:Sat h (A::B::S))(I:aW A)(J:aW B)(hC:∀m r,A.p m r→B.p m r→C.p m r): Sat h (C::S):=s.map fun m r hs=>by
 obtain ⟨a,b,h1,h2,h3,h4,c,d,g1,g2,g3,g4,g5⟩:=hs
 exact ⟨fun _=>none,d,fun _=>.inl rfl,fun _ _ h=>(by cases h),PM.le_trans g3 h3,hC _ _ (I _ _ h4) (J _ _ g4),g5⟩
theorem gN {α:Type}{f:α→au}: Sat h (xs f::S)↔∃x,Sat h (f x::S):=by
 constructor
 ·intro s
  obtain ⟨m,r,I,J,h3,a,b,g1,g2,g3,⟨x,g4⟩,g5⟩:=s.ok
  exact ⟨x,s.wf,m,r,I,J,h3,a,b,g1,g2,g3,g4,g5⟩
 ·rintro ⟨x,s⟩
  exact s.hO fun m r h=>⟨x,h⟩
theorem eo {φ:Prop}: Sat h (pu φ::S)↔φ∧Sat h S:=by
 constructor
 ·intro s
  obtain ⟨m,r,I,h2,h3,a,b,g1,g2,g3,J,g5⟩:=s.ok
  exact ⟨J,s.drop⟩
 ·rintro ⟨I,s⟩; exact s.gA I
theorem bQ {L:List au}: Sat h (star L::S)↔Sat h (L++S) :=
 ⟨fun s=>s.map fun m r hs=>(Hx m r).1 hs,fun s=>s.map fun m r hs=>(Hx m r).2 hs⟩
theorem Sat.row {k id:Nat}{o:Obj}(s:Sat h S)(I:getA S k=some (pt id o)): T.get h.tr id=some o:=by
 obtain ⟨m,r,J,h2,h3⟩:=s.at I
 exact J _ _ h3
theorem Sat.ne {i j:Nat}{o o':Obj}(s:Sat h (pt i o::pt j o'::S)): i≠j:=by
 rintro rfl
 obtain ⟨m,r,h1,h2,h3,a,b,I,g2,g3,J,c,d,k1,k2,k3,k4,k5⟩:=s.ok
 have e1:a i=some o:=J
 have e2:b i=some o':=k2 _ _ k4
 rcases I i with e | e
 ·rw [e1] at e; cases e
 ·rw [e2] at e; cases e
theorem WC {m:PM}{t:T Obj}{id:Nat}{o:Option Obj}(hm:m.le (T.get t)): (m.upd id o).le (T.get (t.set id o)):=by
 intro i x I
 rw [aX]
 simp only [PM.upd] at I
 split
 ·rename_i e; rw [aj e] at I; exact I
 ·rename_i e; rw [ah e] at I; exact hm i x I
theorem Hy {m:PM}{h:H}{id:Nat}{o:Option Obj}(hm:m.le (T.get h.tr))(J:m id=none): m.le (T.get (h.put id o).tr):=by
 intro i x I
 rw [cD]
 split
 ·rename_i e; subst e; rw [J] at I; cases I
 ·exact hm i x I
theorem Q1 : ∀ {S:List au} {k id:Nat} {o o':Obj},getA S k=some (pt id o)→∀m r,(star S).p m r→m id=some o∧(star (setA S k (pt id o'))).p (m.upd id (some o')) r:=by
 intro S
 induction S with
 | nil=>intro k id o o' h; cases h
 | cons B S ih =>
  intro k id o o' J m r hs
  obtain ⟨a,b,h1,h2,h3,h4,h5⟩:=hs
  cases k with
  | zero =>
   simp only [getA] at J
   injection J with J
   subst J
   have ha:a id=some o:=h4
   have hb:b id=none:=by
    rcases h1 id with e | e
    ·rw [ha] at e; cases e
    ·exact e
   refine ⟨h2 _ _ ha,a.upd id (some o'),b,fun i => ?_,fun i x I => ?_,fun i x I => ?_,?_,h5⟩
   ·by_cases e:i=id
    ·right; rw [e]; exact hb
    ·simp only [PM.upd,ah e]; exact h1 i
   ·simp only [PM.upd] at I ⊢
    split
    ·rename_i e; rw [aj e] at I; exact I
    ·rename_i e; rw [ah e] at I; exact h2 i x I
   ·simp only [PM.upd]
    split
    ·rename_i e; subst e; rw [hb] at I; cases I
    ·exact h3 i x I
   ·show (a.upd id (some o')) id=some o'
    simp [PM.upd]
  | succ k =>
   simp only [getA] at J
   obtain ⟨g1,g2⟩:=ih (o':=o') J b r h5
   have ha:a id=none:=by
    rcases h1 id with e | e
    ·exact e
    ·rw [g1] at e; cases e
   refine ⟨h3 _ _ g1,a,b.upd id (some o'),fun i => ?_,fun i x I => ?_,fun i x I => ?_,h4,g2⟩
   ·by_cases e:i=id
    ·left; rw [e]; exact ha
    ·simp only [PM.upd,ah e]; exact h1 i
   ·simp only [PM.upd]
    split
    ·rename_i e; subst e; rw [ha] at I; cases I
    ·exact h2 i x I
   ·simp only [PM.upd] at I ⊢
    split
    ·rename_i e; rw [aj e] at I; exact I
    ·rename_i e; rw [ah e] at I; exact h3 i x I
theorem Sat.put {k id:Nat}{o o':Obj}(s:Sat h S)(hk:getA S k=some (pt id o)): Sat (h.put id (some o')) (setA S k (pt id o')):=by
 obtain ⟨m,r,I,h2,J,h4⟩:=s.ok
 obtain ⟨g1,g2⟩:=Q1 (o':=o') hk m r h4
 have hr:r id=none:=by
  rcases J id with e | e
  ·rw [g1] at e; cases e
  ·exact e
 refine ⟨s.wf.put (s.wf _ _ (I _ _ g1)) _,m.upd id (some o'),r,WC I,Hy h2 hr,fun i => ?_,g2⟩
 by_cases e:i=id
 ·right; rw [e]; exact hr
 ·simp only [PM.upd,ah e]; exact J i
theorem Sat.new (s:Sat h S)(o:Obj): Sat (h.new o) (pt h.next o::S):=by
 obtain ⟨m,r,h1,h2,h3,h4⟩:=s.ok
 have hm:m h.next=none:=by
  cases e:m h.next with
  | none=>rfl
  | some x=>exact absurd (s.wf _ _ (h1 _ _ e)) (Nat.lt_irrefl _)
 have hr:r h.next=none:=by
  cases e:r h.next with
  | none=>rfl
  | some x=>exact absurd (s.wf _ _ (h2 _ _ e)) (Nat.lt_irrefl _)
 have J:∀(q:PM),q.le (T.get h.tr)→q h.next=none→q.le (T.get (h.new o).tr):=fun q hq hn i x I=>by
  rw [iz]
  split
  ·rename_i e; subst e; rw [hn] at I; cases I
  ·exact hq i x I
 refine ⟨s.wf.new o,m.upd h.next (some o),r,fun i x I => ?_,J r h2 hr,fun i => ?_,fun i=>if i=h.next then some o else none,m,fun i => ?_,fun i x I => ?_,fun i x I => ?_,?_,h4⟩
 ·rw [iz]
  simp only [PM.upd] at I
  split
  ·rename_i e; rw [aj e] at I; exact I
  ·rename_i e; rw [ah e] at I; exact h1 i x I
 ·by_cases e:i=h.next
  ·right; rw [e]; exact hr
  ·simp only [PM.upd,ah e]; exact h3 i
 ·by_cases e:i=h.next
  ·right; rw [e]; exact hm
  ·left; simp [e]
 ·simp only [PM.upd]
  by_cases e:i=h.next
  ·simpa [e] using I
  ·simp [e] at I
 ·simp only [PM.upd]
  split
  ·rename_i e; subst e; rw [hm] at I; cases I
  ·exact I
 ·show (if h.next=h.next then some o else none)=some o
  simp
theorem Sat.kill {id:Nat}{o:Obj}(s:Sat h (pt id o::S)): Sat (h.put id none) S:=by
 obtain ⟨m,r,J,h2,h3,a,b,g1,g2,g3,g4,g5⟩:=s.ok
 have I:a id=some o:=g4
 have hb:b id=none:=by
  rcases g1 id with e | e
  ·rw [I] at e; cases e
  ·exact e
 have hr:r id=none:=by
  rcases h3 id with e | e
  ·rw [g2 _ _ I] at e; cases e
  ·exact e
 exact ⟨s.wf.put (s.wf _ _ (J _ _ (g2 _ _ I))) _,b,r,Hy (PM.le_trans g3 J) hb,Hy h2 hr,PM.nC h3 g3 (PM.le_refl _),g5⟩
theorem Sat.freeze {id:Nat}{o:Obj}(s:Sat h (pt id o::S)): Sat h (ro id o::S):=by
 obtain ⟨m,r,h1,h2,h3,a,b,g1,g2,g3,g4,g5⟩:=s.ok
 have J:a id=some o:=g4
 have hb:b id=none:=by
  rcases g1 id with e | e
  ·rw [J] at e; cases e
  ·exact e
 have hr:r id=none:=by
  rcases h3 id with e | e
  ·rw [g2 _ _ J] at e; cases e
  ·exact e
 have hle:r.le (r.upd id (some o)):=fun i x I=>by
  simp only [PM.upd]
  split
  ·rename_i e; subst e; rw [hr] at I; cases I
  ·exact I
 refine ⟨s.wf,b,r.upd id (some o),PM.le_trans g3 h1,fun i x I => ?_,fun i => ?_,fun _=>none,b,fun _=>.inl rfl,fun _ _ h=>(by cases h),PM.le_refl _,?_,au.up g5 (PM.le_refl _) hle⟩
 ·simp only [PM.upd] at I
  split at I
  ·rename_i e; subst e; injection I with I; subst I; exact h1 _ _ (g2 _ _ J)
  ·exact h2 i x I
 ·by_cases e:i=id
  ·left; rw [e]; exact hb
  ·simp only [PM.upd,ah e]; exact PM.nC h3 g3 (PM.le_refl _) i
 ·show (r.upd id (some o)) id=some o
  simp [PM.upd]
theorem Sat.mD {k:Nat}(s:Sat h S)(J:d_ k [] h h'): Sat h' S:=by
 obtain ⟨m,r,h1,h2,h3,h4⟩:=s.ok
 have I:∀(q:PM),q.le (T.get h.tr)→q.le (T.get h'.tr):=fun q hq i x hx=>by
  rw [J.get i (s.wf _ _ (hq _ _ hx)) lP]
  exact hq _ _ hx
 exact ⟨J.wf,m,r,I m h1,I r h2,h3,h4⟩
theorem Sat.WD {k:Nat}{X:List Nat}{m₀:PM}(s:Sat h (A::S))(hk:d_ k X h h')(hX:∀m r,PM.le m (T.get h.tr)→PM.le r (T.get h.tr)→A.p m r→∀i∈X,m i≠none)
 (hm:PM.le m₀ (T.get h'.tr))(hB:∀r,B.p m₀ r)(hn:∀i,m₀ i≠none→i∈X∨h.next≤i): Sat h' (B::S):=by
 obtain ⟨m,r,h1,h2,h3,a,b,g1,g2,g3,g4,g5⟩:=s.ok
 have ZK:∀i∈X,a i≠none:=hX a r (PM.le_trans g2 h1) h2 g4
 have ZL:∀i∈X,b i=none:=fun i hi=>by
  rcases g1 i with e | e
  ·exact absurd e (ZK i hi)
  ·exact e
 have ZM:∀i∈X,r i=none:=fun i hi=>by
  cases e:a i with
  | none=>exact absurd e (ZK i hi)
  | some o =>
   rcases h3 i with J | J
   ·rw [g2 _ _ e] at J; cases J
   ·exact J
 have ZN:∀(q:PM),q.le (T.get h.tr)→(∀i∈X,q i=none)→q.le (T.get h'.tr):=fun q hq hz i x hx=>by
  rw [hk.get i (s.wf _ _ (hq _ _ hx)) (fun hi=>by rw [hz i hi] at hx; cases hx)]
  exact hq _ _ hx
 have I:∀(q:PM),q.le (T.get h.tr)→(∀i∈X,q i=none)→m₀.dj q:=fun q hq hz i=>by
  cases e:m₀ i with
  | none=>exact .inl rfl
  | some x =>
   right
   rcases hn i (by rw [e]; simp) with hi | hi
   ·exact hz i hi
   ·cases J:q i with
    | none=>rfl
    | some y=>exact absurd (s.wf _ _ (hq _ _ J)) (Nat.not_lt.2 hi)
 have pS:=ZN b (PM.le_trans g3 h1) ZL
 have hd:=I b (PM.le_trans g3 h1) ZL
 exact ⟨hk.wf,m₀.un b,r,PM.CX hm pS,ZN r h2 ZM,PM.CY (I r h2 ZM) (PM.nC h3 g3 (PM.le_refl _)),m₀,b,hd,PM.Hu _ _,PM.Hv hd,hB r,g5⟩
end
theorem bg (v:V)(l:List Nat): cT (aZ v l) (cU v l):=fun _ _ h=>.inl (sj.view h)
theorem dy (v:V)(l:List Nat): cT (BB v l) (cU v l):=fun _ _ h=>.inr h
theorem aW.cx (v:V)(l:List Nat): aW (.cx v l):=fun _ _ h=>h
section
variable {h h':H} {S:List au} {A X:au} {v:V} {l:List Nat}
theorem Sat.aE {k:Nat}(s:Sat h S)(J:getA S k=some X)(hX:cT X (cU v l)): View h v l:=by
 obtain ⟨m,r,h1,h2,h3⟩:=s.at J
 rcases hX _ _ h3 with I | I
 ·exact ie.up I h1
 ·exact ie.up I h2
theorem Sat.buf {k:Nat}(s:Sat h S)(I:getA S k=some (aZ v l)): jR h v l:=by
 obtain ⟨m,r,J,h2,h3⟩:=s.at I
 exact sj.up (l:=l) h3 J
theorem KE {m:PM}(J:sj m v l): ∀i∈rowIds v,m i≠none:=by
 intro i hi
 obtain ⟨_,h2⟩:=J
 rcases h2 with ⟨rfl,_⟩ | ⟨id,cs,c,rfl,I,h3⟩ | ⟨id,rfl,I,h3⟩
 ·cases hi
 ·simp [rowIds] at hi; subst hi; rw [I]; simp
 ·simp [rowIds] at hi; subst hi; rw [I]; simp
theorem KF (hb:jR h v l): sj (fun i=>if i∈rowIds v then T.get h.tr i else none) v l:=by
 obtain ⟨h1,I⟩:=hb
 refine ⟨h1,?_⟩
 rcases I with I | ⟨id,cs,c,rfl,J,h3⟩ | ⟨id,rfl,J,h3⟩
 ·exact .inl I
 ·exact .inr (.inl ⟨id,cs,c,rfl,by simp [rowIds,J],h3⟩)
 ·exact .inr (.inr ⟨id,rfl,by simp [rowIds,J],h3⟩)
theorem Oj (L:List Nat): PM.le (fun i=>if i∈L then T.get h.tr i else none) (T.get h.tr):=fun i x I=>by
 simp only at I
 split at I
 ·exact I
 ·cases I
theorem Sat.Hz {k:Nat}(s:Sat h S)(I:d_ k [] h h')(J:jR h' v l)(hn:∀i∈rowIds v,h.next≤i): Sat h' (aZ v l::S):=by
 have s':Sat h (pu True::S):=s.gA aa
 refine s'.WD (B:=aZ v l) (m₀:=fun i=>if i∈rowIds v then T.get h'.tr i else none) I (fun _ _ _ _ _ i hi=>by cases hi) (Oj _) (fun _=>KF J) (fun i hi=>.inr ?_)
 split at hi
 ·rename_i e; exact hn i e
 ·exact absurd rfl hi
theorem Sat.AR {k:Nat}{v':V}{I:List Nat}(s:Sat h (aZ v l::S))(J:d_ k (rowIds v) h h')(hb:jR h' v' I)(hn:∀i∈rowIds v',i∈rowIds v∨h.next≤i): Sat h' (aZ v' I::S):=by
 refine s.WD (B:=aZ v' I) (m₀:=fun i=>if i∈rowIds v' then T.get h'.tr i else none) J (fun _ _ _ _ h=>KE h) (Oj _) (fun _=>KF hb) (fun i hi => ?_)
 split at hi
 ·rename_i e; exact hn i e
 ·exact absurd rfl hi
theorem Sat.fU (s:Sat h (aZ v l::S)): Sat h (BB v l::S):=by
 obtain ⟨m,r,J,h2,h3,a,b,g1,g2,g3,g4,g5⟩:=s.ok
 have I:r.dj a:=PM.pn (PM.nC h3 g2 (PM.le_refl _))
 refine ⟨s.wf,b,r.un a,PM.le_trans g3 J,PM.CX h2 (PM.le_trans g2 J),PM.pn (PM.CY (PM.pn (PM.nC h3 g3 (PM.le_refl _))) g1),fun _=>none,b,fun _=>.inl rfl,fun _ _ h=>(by cases h),PM.le_refl _,?_,au.up g5 (PM.le_refl _) (PM.Hu _ _)⟩
 exact (sj.view g4).up (PM.Hv I)
end
theorem WE {a b c d:H}{l:List H}{p:H→Prop}(J:p a)(hb:p b)(hc:p c)(hd:p d): ∀x∈((a::b::c::d::l).drop 0).take 4,p x:=by
 intro x I
 simp only [eu,sR,mX,fq,lP,qT] at I
 rcases I with rfl | rfl | rfl | rfl
 ·exact J
 ·exact hb
 ·exact hc
 ·exact hd
section
variable {P:Program} {h:H} {S:List au} {k id off n:Nat} {cs:List V} {st:Bool} {v u:V} {t:TypeId}
theorem Sat.ld (s:Sat h S)(I:getA S k=some (pt id (.cells n cs st)))(J:cm P t=some false)(hn:nth cs off=some v): loadV P h t (.ptr id off)=some v:=Oc J (s.row I) hn
theorem Sat.cA (s:Sat h S)(I:getA S k=some (pt id (.cells n cs st)))(J:cm P t=some true)(hs:bH P t=some n): loadV P h t (.ptr id 0)=some (.agg cs):=Am.cA J hs (s.row I)
theorem Sat.ey (s:Sat h S)(J:getA S k=some (pt id (.cells n cs false)))(hs:bH P t=some 1)(hl:cs.length=n)(ho:off<n)(hv:v.cells=[v])(I:storable v=true):
  ∃h₁,g9 P h t (.ptr id off) v=some h₁∧Sat h₁ (setA S k (pt id (.cells n (cs.set off v) false))):=by
 refine ⟨h.put id (some (.cells n (cs.set off v) false)),?_,s.put J⟩
 simp only [g9,hs,hv,aS,bT,fH,jh,I,Bool.and_true]
 rw [show Nat.beq (0+1) 1=true from rfl,ag]
 simp only [wrN,s.row J,aS,bT]
 rw [aJ.2 (show off+(0+1)≤n by omega),ag]
 congr 3
 rw [Kg,aj (by omega)]
 cases hc:(Nat.beq off 0&&Nat.beq (0+1) n) with
 | true =>
  simp only [aO,beq_iff] at hc
  obtain ⟨rfl,rfl⟩:=hc
  rw [ag]
  have:cs.drop (0+1)=[]:=je (by omega)
  simp [this]
 | false=>rw [az]; rfl
theorem Sat.stN {l:List V}(s:Sat h S)(J:getA S k=some (pt id (.cells n cs false)))(hs:bH P t=some l.length)(hl:cs.length=n)(ho:off+l.length≤n)(I:l.all storable=true):
  ∃h₁,g9 P h t (.ptr id off) (.agg l)=some h₁∧Sat h₁ (setA S k (pt id (.cells n (cs.take off++(l++cs.drop (off+l.length))) false))):=by
 refine ⟨h.put id (some (.cells n (cs.take off++(l++cs.drop (off+l.length))) false)),?_,s.put J⟩
 simp only [g9,hs,V.cells,I,dR,iu,ag,wrN,s.row J]
 rw [aJ.2 ho,ag]
 congr 3
 cases hc:(Nat.beq off 0&&Nat.beq l.length n) with
 | true =>
  simp only [aO,beq_iff] at hc
  obtain ⟨rfl,hn⟩:=hc
  rw [ag]
  have:cs.drop (0+l.length)=[]:=je (by omega)
  rw [this]
  simp
 | false=>rw [az]
end
section
variable {C:cL} {ay:Nat} {E:List (Nat×V)} {h:H} {R:List (Nat×V)→H→Prop} {L rest:List Oper} {o:Oper} {d:Nat} {S:List au}
theorem aA.b5 {cs:List V}(s:Sat h S)(I:wantE L E o.guard=some true)(J:o.dst=some d)(hn:Nat.blt d ay=true)(ho:opE C.P E h o.op=some (.ptr h.next 0,newRow h cs))
 (hr:∀id h₁,Sat h₁ (pt id (.cells cs.length cs false)::S)→aA C ay L rest ((d,.ptr id 0)::E) h₁ R): aA C ay L (o::rest) E h R :=
 aA.op I J hn ho (hr _ _ (s.new _))
theorem aA.fO {t:TypeId}{x y:Operand}{v u:V}{S':List au}(J:wantE L E o.guard=some true)(hd:o.dst=none)(I:o.op=.store t x y)(hx:lookO E x=some v)(hy:lookO E y=some u)
 (ho:∃h₁,g9 C.P h t v u=some h₁∧Sat h₁ S')(hr:∀h₁,Sat h₁ S'→aA C ay L rest E h₁ R): aA C ay L (o::rest) E h R:=by
 obtain ⟨h₁,e1,e2⟩:=ho
 exact aA.Wa J hd (by rw [I]; exact AQ hx hy e1) (hr h₁ e2)
theorem WP.label {Q:Ex→List (Nat×V)→H→Prop}{l:Nat}(I:Q .normal E h): WP C ay (.label l) E h Q:=fun env J=>⟨1,.normal,env,h,E,rfl,J,I⟩
theorem WP.split {Q:Ex→List (Nat×V)→H→Prop}{x:Operand}{a b:Code}{t:Bool}(I:lookO E x=some (.bool t))(J:t=true→WP C ay a E h Q)(h2:t=false→WP C ay b E h Q): WP C ay (.cond x a b) E h Q:=by
 refine WP.cond I ?_
 cases t with
 | true=>exact J rfl
 | false=>exact h2 rfl
theorem WP.L9 {Q:Ex→List (Nat×V)→H→Prop}{x:Operand}{a b:Code}{t:Bool}(I:lookO E x=some (.bool t))(J:t=true)(h1:WP C ay a E h Q): WP C ay (.cond x a b) E h Q:=by
 subst J; exact WP.cond I h1
theorem WP.Tc {Q:Ex→List (Nat×V)→H→Prop}{x:Operand}{a b:Code}{t:Bool}(I:lookO E x=some (.bool t))(J:t=false)(h1:WP C ay b E h Q): WP C ay (.cond x a b) E h Q:=by
 subst J; exact WP.cond I h1
end
section
variable {P:Program} {E:List (Nat×V)} {h h₁:H} {x y a b:Operand} {v u r:V}
theorem Yv {t i:Nat}(I:lookO E x=some v)(J:pQ P t v i=some r): opE P E h (.field t x i)=some (r,h):=by simp only [opE,jQ,I,J,aY]
theorem Yw {t:TypeId}: opE P E h (.makeMap t none)=some (.map h.next,h.new (.map [] 0)):=rfl
theorem iJ {t:TypeId}{ok:Bool}(I:lookO E x=some v)(J:lookO E y=some u)(hf:eV P h t v u ok=some r): opE P E h (.lookup t x y ok)=some (r,h):=by simp only [opE,u6,I,J,hf,aY]
theorem Yx {cs:List V}{t i off:Nat}(I:pQ P t (.agg cs) i=nth cs off)(J:nth cs off=some r): pQ P t (.agg cs) i=some r:=by rw [I,J]
theorem iZ {s d:TypeId}{k k':IntKind}{n:Int}{I:TypeDesc}(hs:P.underlying s=some I)(J:P.underlying d=some (.int k'))(hn:k'.wrap n=n): convV P h s d (.int k n)=some (.int k' n,h):=by simp only [convV,hs,J,hn]
theorem C0 {t e:TypeId}{i o n:Nat}{c:Cap}(hu:P.underlying t=some (.slice e)): lenV P h t (.sl i o n c)=some (.int .i64 n):=by simp only [lenV,hu]
theorem Ur {t e:TypeId}(hu:P.underlying t=some (.slice e)): lenV P h t .bw=some (.int .i64 0):=by simp only [lenV,hu]
theorem a_ {t e:TypeId}{l:List Nat}(hu:P.underlying t=some (.slice e))(hv:View h v l): lenV P h t v=some (.int .i64 l.length):=by
 obtain ⟨_,hv⟩:=hv
 rcases hv with ⟨rfl | ⟨I,rfl⟩,rfl⟩ | ⟨id,off,cap,n,cs,st,rfl,_⟩ <;> simp [lenV,hu]
theorem rW {t:TypeId}{I:TypeDesc}(hu:P.underlying t=some I)(J:(match I with | .interface _=>false | _=>true)=true): makeIfaceV P t v=some (.iface t v):=by
 simp only [makeIfaceV,hu]
 cases I <;> first | rfl | simp at J
end
section
theorem aC {n:Int}(I : -9223372036854775808≤n)(J:n<9223372036854775808): IntKind.wrap .i64 n=n:=by
 by_cases h:0≤n
 ·have e:(n%(2^(IntKind.i64).bits:Int))=n:=by simp only [IntKind.bits]; omega
  have g:¬ (n≥(2^((IntKind.i64).bits-1):Int)):=by simp only [IntKind.bits]; omega
  simp only [IntKind.wrap,e,g,o6,AA,dY,bN]
 ·have e:(n%(2^(IntKind.i64).bits:Int))=n+18446744073709551616:=by simp only [IntKind.bits]; omega
  have g:(n+18446744073709551616≥(2^((IntKind.i64).bits-1):Int)):=by simp only [IntKind.bits]; omega
  simp only [IntKind.wrap,e,g,AF,IntKind.signed,iu,bO]
  simp only [IntKind.bits]
  omega
theorem fD {n:Int}(I:0≤n)(J:n<18446744073709551616): IntKind.wrap .u64 n=n:=by
 simp only [IntKind.wrap,IntKind.bits,IntKind.signed,gZ,dY,bN]
 omega
theorem Us {n:Int}(I:0≤n)(J:n<4294967296): IntKind.wrap .u32 n=n:=by
 simp only [IntKind.wrap,IntKind.bits,IntKind.signed,gZ,dY,bN]
 omega
theorem C1 {n:Int}(I:0≤n)(J:n<256): IntKind.wrap .u8 n=n:=by
 simp only [IntKind.wrap,IntKind.bits,IntKind.signed,gZ,dY,bN]
 omega
variable {P:Program} {h:H} {t:TypeId} {x y:Operand} {a b:Int}
theorem br {k:IntKind}(hw:k.wrap (a+b)=a+b): binV P h .add t x y (.int k a) (.int k b)=some (.int k (a+b)):=by
 simp only [binV,dN,ag,intV,hw]
theorem jE {k:IntKind}(hw:k.wrap (a-b)=a-b): binV P h .sub t x y (.int k a) (.int k b)=some (.int k (a-b)):=by
 simp only [binV,dN,ag,intV,hw]
theorem kA {k:IntKind}(hw:k.wrap (a*b)=a*b): binV P h .mul t x y (.int k a) (.int k b)=some (.int k (a*b)):=by
 simp only [binV,dN,ag,intV,hw]
theorem eA {k:IntKind}: binV P h .eql t x y (.int k a) (.int k b)=some (.bool (decide (a=b))):=by
 simp only [binV,dN,ag,intV]
 congr 2
 cases I:intBeq a b with
 | true=>simp [u5 I]
 | false =>
  by_cases he:a=b
  ·subst he; rw [lz] at I; cases I
  ·simp [he]
theorem aN {k:IntKind}: binV P h .neq t x y (.int k a) (.int k b)=some (.bool (!decide (a=b))):=by
 simp only [binV,dN,ag,intV]
 congr 3
 cases I:intBeq a b with
 | true=>simp [u5 I]
 | false =>
  by_cases he:a=b
  ·subst he; rw [lz] at I; cases I
  ·simp [he]
theorem aT {k:IntKind}: binV P h .lss t x y (.int k a) (.int k b)=some (.bool (decide (a<b))):=by simp only [binV,dN,ag,intV]
theorem BY {k:IntKind}: binV P h .leq t x y (.int k a) (.int k b)=some (.bool (decide (a≤b))):=by simp only [binV,dN,ag,intV]
theorem gv {k:IntKind}: binV P h .gtr t x y (.int k a) (.int k b)=some (.bool (decide (a>b))):=by simp only [binV,dN,ag,intV]
theorem mG {k:IntKind}: binV P h .geq t x y (.int k a) (.int k b)=some (.bool (decide (a≥b))):=by simp only [binV,dN,ag,intV]
theorem BC : ∀ {l m:List Nat},natsBeq l m=decide (l=m):=by
 intro l
 induction l with
 | nil=>intro m; cases m <;> simp [natsBeq]
 | cons a l J =>
  intro m
  cases m with
  | nil=>simp [natsBeq]
  | cons b m =>
   simp only [natsBeq]
   by_cases I:a=b
   ·subst I; rw [dR,ag,J]; simp
   ·rw [dc I,az]; simp [I]
theorem Td {l m:List Nat}: binV P h .eql t x y (.str l) (.str m)=some (.bool (decide (l=m))):=by simp only [binV,strV,BC]
end
section
variable {C:cL} {ay:Nat} {E:List (Nat×V)} {h:H} {R:List (Nat×V)→H→Prop} {L rest:List Oper} {o:Oper} {d:Nat} {S:List au} {p:Bool}
theorem aA.y5 (I:wantE L E o.guard=some true)(J:o.dst=some d)(hn:Nat.blt d ay=true)(ho:opE C.P E h o.op=some (.bool p,h))(hp:p=true)(hw:aA C ay L rest ((d,.bool true)::E) h R): aA C ay L (o::rest) E h R:=by
 subst hp; exact aA.op I J hn ho hw
theorem aA.oD (I:wantE L E o.guard=some true)(J:o.dst=some d)(hn:Nat.blt d ay=true)(ho:opE C.P E h o.op=some (.bool p,h))(hp:p=false)(hw:aA C ay L rest ((d,.bool false)::E) h R): aA C ay L (o::rest) E h R:=by
 subst hp; exact aA.op I J hn ho hw
theorem aA.WG (I:wantE L E o.guard=some true)(J:o.dst=some d)(hn:Nat.blt d ay=true)(ho:opE C.P E h o.op=some (.bool p,h))(ht:p=true→aA C ay L rest ((d,.bool true)::E) h R)(hf:p=false→aA C ay L rest ((d,.bool false)::E) h R): aA C ay L (o::rest) E h R:=by
 cases p with
 | true=>exact aA.op I J hn ho (ht rfl)
 | false=>exact aA.op I J hn ho (hf rfl)
theorem aA.y6 {t:TypeId}(s:Sat h S)(J:wantE L E o.guard=some true)(hd:o.dst=some d)(hn:Nat.blt d ay=true)(I:o.op=.makeMap t none)
 (hr:∀id h₁,Sat h₁ (pt id (.map [] 0)::S)→aA C ay L rest ((d,.map id)::E) h₁ R): aA C ay L (o::rest) E h R :=
 aA.op J hd hn (by rw [I]; exact Yw) (hr _ _ (s.new _))
theorem aA.i_ {xo:V→H→Prop}(hg:wantE L E o.guard=some true)(hd:o.dst=none)(ho:OpR C E h o xo)
 (hw:∀v h₁,xo v h₁→aA C ay L rest E h₁ R): aA C ay L (o::rest) E h R:=by
 intro env J
 obtain ⟨v,h₁,hr,jZ⟩:=ho
 obtain ⟨N,hN⟩:=jZ env J
 obtain ⟨M,I,h',E',h1,h2,h3⟩:=hw v h₁ hr env J
 refine ⟨Nat.max N M,I,h',E',?_,h2,h3⟩
 simp only [evOps,kz J hg,ag,my (fA (o5 N M)) hN,St.put,hd]
 exact p_ (fA (oZ N M)) _ _ _ h1
variable {hs:List H} {Q:List (Nat×V)→H→List (List (Nat×V)×V)→List H→Prop}
theorem aB.y5 (J:wantE L E o.guard=some true)(hd:o.dst=some d)(hn:Nat.blt d ay=true)(he:isEff C o.op=false)(ho:opE C.P E h o.op=some (.bool p,h))(hp:p=true)
 (hw:aB C ay L rest ((d,.bool true)::E) h hs fun E' h' ts I=>Q E' h' ((E,.bool true)::ts) I): aB C ay L (o::rest) E h hs Q:=by
 subst hp; exact aB.op J hd hn he ho hw
theorem aB.oD (J:wantE L E o.guard=some true)(hd:o.dst=some d)(hn:Nat.blt d ay=true)(he:isEff C o.op=false)(ho:opE C.P E h o.op=some (.bool p,h))(hp:p=false)
 (hw:aB C ay L rest ((d,.bool false)::E) h hs fun E' h' ts I=>Q E' h' ((E,.bool false)::ts) I): aB C ay L (o::rest) E h hs Q:=by
 subst hp; exact aB.op J hd hn he ho hw
theorem aB.WG (hg:wantE L E o.guard=some true)(hd:o.dst=some d)(hn:Nat.blt d ay=true)(he:isEff C o.op=false)(ho:opE C.P E h o.op=some (.bool p,h))
 (ht:p=true→aB C ay L rest ((d,.bool true)::E) h hs fun E' h' J I=>Q E' h' ((E,.bool true)::J) I)
 (hf:p=false→aB C ay L rest ((d,.bool false)::E) h hs fun E' h' J I=>Q E' h' ((E,.bool false)::J) I): aB C ay L (o::rest) E h hs Q:=by
 cases p with
 | true=>exact aB.op hg hd hn he ho (ht rfl)
 | false=>exact aB.op hg hd hn he ho (hf rfl)
theorem OpR.fO {t:TypeId}{x y:Operand}{v u:V}{S':List au}(I:o.op=.store t x y)(J:lookO E x=some v)(hy:lookO E y=some u)
 (ho:∃h₁,g9 C.P h t v u=some h₁∧Sat h₁ S'): OpR C E h o fun w h₁=>w=bV∧Sat h₁ S':=by
 obtain ⟨h₁,e1,e2⟩:=ho
 exact OpR.of (by rw [I]; exact AQ J hy e1) ⟨rfl,e2⟩
theorem OpR.b5 {cs:List V}(s:Sat h S)(ho:opE C.P E h o.op=some (.ptr h.next 0,newRow h cs)):
  OpR C E h o fun v h₁=>∃id,v=.ptr id 0∧Sat h₁ (pt id (.cells cs.length cs false)::S) :=
 OpR.of ho ⟨_,rfl,s.new _⟩
end
theorem GG {P:Program}{E:List (Nat×V)}{h:H}{a b t:Nat}{p v w:V}(I:look E a=some p)(J:loadV P h t p=some v)(h2:look E b=some w): iI P E h [.cell a t,.tmp b]=some (.bj [v,w]):=by simp only [iI,mapO,resE,I,J,h2]
theorem ue {P:Program}{E:List (Nat×V)}{h:H}{t:Nat}{v:V}(I:look E t=some v): iI P E h [.tmp t]=some v:=by simp only [iI,mapO,resE,I]
def aaw : Code→Nat→Code
 | .seq a _,0=>a
 | .seq _ b,_=>b
 | .cond _ a _,0=>a
 | .cond _ _ b,_=>b
 | .block _ a,_=>a
 | .loop a,_=>a
 | .scope a,_=>a
 | c,_=>c
def dB : List Nat→Code→Code
 | [],c=>c
 | k::ks,c=>dB ks (aaw c k)
section
variable {C:cL} {ay:Nat} {L rest:List Oper} {E:List (Nat×V)} {h h₁:H} {R:List (Nat×V)→H→Prop} {o:Oper} {d:Nat} {v u:V} {x y:Operand} {t:TypeId} {p:Bool} {S':List au}
theorem zc {cl:Go.Call}{k:FuncId}{first cap args:List V}{xo:V→H→Prop}(e:(wantE L E o.guard,o.dst,Nat.blt d ay,o.op,cl.callee,lookO E x,lookArgs E cl.args.toList)=(some true,some d,true,Op.call cl,Callee.value x,some (.fn (.func k) first cap),some args))
 (I:Call C k (first++(args++cap)) h xo)(hw:∀v h₁,xo v h₁→aA C ay L rest ((d,v)::E) h₁ R): aA C ay L (o::rest) E h R:=by
  simp only [aF] at e; exact aA.call e.1 e.2.1 e.2.2.1 e.2.2.2.1 e.2.2.2.2.1 e.2.2.2.2.2.1 e.2.2.2.2.2.2 I hw
theorem zt (e:(wantE L E o.guard,o.dst,Nat.blt d ay)=(some true,some d,true))(ho:opE C.P E h o.op=some (.bool p,h))(I:p=true)(hw:aA C ay L rest ((d,.bool true)::E) h R): aA C ay L (o::rest) E h R:=by
  simp only [aF] at e; exact aA.y5 e.1 e.2.1 e.2.2 ho I hw
theorem zh (e:(wantE L E o.guard,o.dst,Nat.blt d ay)=(some true,some d,true))(ho:opE C.P E h o.op=some (.bool p,h))(I:p=false)(hw:aA C ay L rest ((d,.bool false)::E) h R): aA C ay L (o::rest) E h R:=by
  simp only [aF] at e; exact aA.oD e.1 e.2.1 e.2.2 ho I hw
theorem zd (e:(wantE L E o.guard,o.dst,Nat.blt d ay)=(some true,some d,true))(ho:opE C.P E h o.op=some (.bool p,h))(I:p=true→aA C ay L rest ((d,.bool true)::E) h R)(J:p=false→aA C ay L rest ((d,.bool false)::E) h R): aA C ay L (o::rest) E h R:=by
  simp only [aF] at e; exact aA.WG e.1 e.2.1 e.2.2 ho I J
theorem zS (e:(wantE L E o.guard,o.dst,o.op,lookO E x,lookO E y)=(some true,none,Op.store t x y,some v,some u))(ho:∃h₁,g9 C.P h t v u=some h₁∧Sat h₁ S')(I:∀h₁,Sat h₁ S'→aA C ay L rest E h₁ R): aA C ay L (o::rest) E h R:=by
  simp only [aF] at e; exact aA.fO e.1 e.2.1 e.2.2.1 e.2.2.2.1 e.2.2.2.2 ho I
end
end Go.Proofs.YtefepnnfphdkpaaGreat.Am
