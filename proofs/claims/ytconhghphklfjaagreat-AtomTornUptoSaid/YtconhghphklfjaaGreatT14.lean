/- AtomTorn: a part of its proof; conditions: its statement's. -/
import Derived.Test.YtconhghphklfjaaGreatT13
namespace Go.Proofs.YtconhghphklfjaaGreat.Am
open Go
abbrev PM := Nat→Option Obj
def PM.le (a b:PM): Prop:=∀i o,a i=some o→b i=some o
def PM.dj (a b:PM): Prop:=∀i,a i=none∨b i=none
def PM.upd (m:PM)(id:Nat)(o:Option Obj): PM:=fun i=>if i=id then o else m i
def PM.un (a b:PM): PM:=fun i=>(a i).orElse fun _=>b i
theorem PM.le_refl (a:PM): a.le a:=fun _ _ h=>h
theorem PM.le_trans {a b c:PM}(x:a.le b)(y:b.le c): a.le c:=fun i o h=>y i o (x i o h)
theorem PM.nB {a b I J:PM}(hd:a.dj b)(ha:I.le a)(hb:J.le b): I.dj J:=by
 intro i
 rcases hd i with h | h
 ·left
  cases U:I i with
  | none=>rfl
  | some o=>rw [ha i o U] at h; cases h
 ·right
  cases U:J i with
  | none=>rfl
  | some o=>rw [hb i o U] at h; cases h
theorem PM.pT {a b:PM}(h:a.dj b): b.dj a:=fun i=>(h i).symm
theorem PM.G4 (a b:PM): a.le (a.un b):=fun i o h=>by simp [PM.un,h]
theorem PM.G5 {a b:PM}(J:a.dj b): b.le (a.un b):=fun i o h=>by
 rcases J i with I | I
 ·simp [PM.un,I,h]
 ·rw [h] at I; cases I
theorem PM.CV {a b c:PM}(J:a.le c)(U:b.le c): (a.un b).le c:=fun i o h=>by
 simp only [PM.un] at h
 cases I:a i with
 | none=>rw [I] at h; exact U i o h
 | some x=>rw [I] at h; injection h with h; subst h; exact J i _ I
theorem PM.CW {a b c:PM}(J:a.dj c)(U:b.dj c): (a.un b).dj c:=fun i=>by
 rcases J i with h | h
 ·rcases U i with I | I
  ·left; simp [PM.un,h,I]
  ·right; exact I
 ·right; exact h
def ik (m:PM)(v:V)(l:List Nat): Prop:=(∀b∈l,b<256)∧(((v=.bz∨∃a,v=.sle a)∧l=[]) ∨
 ∃id off cap n cs st,v=.sl id off l.length cap∧m id=some (.cells n cs st)∧cs.length=n∧off+l.length≤n∧(cs.drop off).take l.length=ofBytes l ∧
  (match cap with | .exact c=>l.length≤c | .rest e _=>e=1))
def sL (m:PM)(v:V)(l:List Nat): Prop:=(∀b∈l,b<256)∧((v=.bz∧l=[]) ∨
 (∃id cs c,v=.sl id 0 l.length (.exact c)∧m id=some (.cells c (ofBytes l++cs) false)∧l.length+cs.length=c) ∨
 (∃id,v=.sl id 0 l.length (.rest 1 0)∧m id=some (.cells l.length (ofBytes l) false)∧1≤l.length))
theorem ik.up {m m':PM}{v:V}{l:List Nat}(h:ik m v l)(hm:PM.le m m'): ik m' v l:=by
 obtain ⟨J,I⟩:=h
 refine ⟨J,?_⟩
 rcases I with I | ⟨id,off,cap,n,cs,st,e,U,h3⟩
 ·exact .inl I
 ·exact .inr ⟨id,off,cap,n,cs,st,e,hm _ _ U,h3⟩
theorem sL.up {m m':PM}{v:V}{l:List Nat}(h:sL m v l)(hm:PM.le m m'): sL m' v l:=by
 obtain ⟨h1,I⟩:=h
 refine ⟨h1,?_⟩
 rcases I with I | ⟨id,cs,c,e,J,U⟩ | ⟨id,e,J,U⟩
 ·exact .inl I
 ·exact .inr (.inl ⟨id,cs,c,e,hm _ _ J,U⟩)
 ·exact .inr (.inr ⟨id,e,hm _ _ J,U⟩)
theorem sL.view {m:PM}{v:V}{l:List Nat}(I:sL m v l): ik m v l:=by
 obtain ⟨U,I⟩:=I
 refine ⟨U,?_⟩
 rcases I with I | ⟨id,cs,c,rfl,J,hc⟩ | ⟨id,rfl,J,h1⟩
 ·exact .inl ⟨.inl I.1,I.2⟩
 ·refine .inr ⟨id,0,.exact c,c,_,false,rfl,J,by simp [dR,hc],by omega,?_,by show l.length≤c; omega⟩
  rw [d_,jX (dR l)]
 ·refine .inr ⟨id,0,.rest 1 0,_,_,false,rfl,J,dR l,by omega,?_,rfl⟩
  rw [d_]
  exact fR (by rw [dR]; exact aI _)
def G6 (m:PM)(k:Nat)(v:V)(cs:List V): Prop:=cs.all storable=true∧((v=.bz∧cs=[]) ∨
 ∃id n cap N rest,v=.sl id 0 n cap∧m id=some (.cells N (cs++rest) false)∧cs.length=n*k∧cs.length+rest.length=N∧rest.all storable=true ∧
  (match cap with | .exact c=>N=c*k∧n≤c | .rest e alt=>e=k∧alt=0∧rest=[]∧1≤n))
theorem G6.up {m m':PM}{k:Nat}{v:V}{cs:List V}(h:G6 m k v cs)(hm:PM.le m m'): G6 m' k v cs:=by
 obtain ⟨J,I⟩:=h
 refine ⟨J,?_⟩
 rcases I with I | ⟨id,n,cap,N,rest,e,U,h3⟩
 ·exact .inl I
 ·exact .inr ⟨id,n,cap,N,rest,e,hm _ _ U,h3⟩
inductive ax : Type 1 where
 | pt (id:Nat) (o:Obj)
 | ro (id:Nat) (o:Obj)
 | pu (φ:Prop)
 | buf (v:V) (l:List Nat)
 | ct (v:V) (l:List Nat)
 | V4 (v:V) (l:List Nat)
 | arr (k:Nat) (v:V) (cs:List V)
 | an (A B:ax)
 | xs {α:Type} (f:α→ax)
 | all {α:Type} (f:α→ax)
 | se (A B:ax)
abbrev pt := ax.pt
abbrev ro := ax.ro
abbrev pu := ax.pu
abbrev xs {α:Type}(f:α→ax): ax:=ax.xs f
abbrev bK := ax.buf
abbrev Bz := ax.ct
abbrev cY := ax.V4
def ax.p : ax→PM→PM→Prop
 | .pt id o,m,_=>m id=some o
 | .ro id o,_,r=>r id=some o
 | .pu φ,_,_=>φ
 | .buf v l,m,_=>sL m v l
 | .ct v l,_,r=>ik r v l
 | .V4 v l,m,r=>ik m v l∨ik r v l
 | .arr k v cs,m,_=>G6 m k v cs
 | .an A B,m,r=>A.p m r∧B.p m r
 | .xs f,m,r=>∃x,(f x).p m r
 | .all f,m,r=>∀x,(f x).p m r
 | .se A B,m,r=>∃a b,PM.dj a b∧PM.le a m∧PM.le b m∧A.p a r∧B.p b r
theorem ax.mono : ∀(A:ax) (m m' r J:PM),PM.le m m'→PM.le r J→A.p m r→A.p m' J:=by
 intro A
 induction A with
 | pt id o=>intro m m' r J hm I h; exact hm _ _ h
 | ro id o=>intro m m' r J hm I h; exact I _ _ h
 | pu φ=>intro m m' r J hm I h; exact h
 | buf v l=>intro m m' r J hm I h; exact sL.up h hm
 | ct v l=>intro m m' r J hm I h; exact ik.up h I
 | V4 v l =>
  intro m m' r J hm I h
  rcases h with h | h
  ·exact .inl (ik.up h hm)
  ·exact .inr (ik.up h I)
 | arr k v cs=>intro m m' r J hm I h; exact G6.up h hm
 | an A B U ib=>intro m m' r J hm I h; exact ⟨U _ _ _ _ hm I h.1,ib _ _ _ _ hm I h.2⟩
 | xs f ih=>intro m m' r J hm I h; obtain ⟨x,hx⟩:=h; exact ⟨x,ih x _ _ _ _ hm I hx⟩
 | all f ih=>intro m m' r J hm I h x; exact ih x _ _ _ _ hm I (h x)
 | se A B U ib =>
  intro m m' r J hm I h
  obtain ⟨a,b,h1,h2,h3,h4,h5⟩:=h
  exact ⟨a,b,h1,PM.le_trans h2 hm,PM.le_trans h3 hm,U _ _ _ _ (PM.le_refl _) I h4,ib _ _ _ _ (PM.le_refl _) I h5⟩
def star : List ax→ax
 | []=>.pu True
 | A::L=>.se A (star L)
theorem ax.up {A:ax}{m m' r I:PM}(h:A.p m r)(hm:m.le m')(J:r.le I): A.p m' I:=A.mono m m' r I hm J h
def cU (A B:ax): Prop:=∀m r,A.p m r→B.p m r
def aH (A:ax): Prop:=∀m r,A.p m r→A.p (fun _=>none) r
theorem aH.ro (id:Nat)(o:Obj): aH (.ro id o):=fun _ _ h=>h
theorem aH.pu (φ:Prop): aH (.pu φ):=fun _ _ h=>h
theorem aH.xs {α:Type}{f:α→ax}(h:∀x,aH (f x)): aH (.xs f):=fun m r ⟨x,I⟩=>⟨x,h x m r I⟩
theorem aH.an {A B:ax}(I:aH A)(J:aH B): aH (.an A B):=fun m r h=>⟨I m r h.1,J m r h.2⟩
def getA : List ax→Nat→Option ax
 | [],_=>none
 | A::_,0=>some A
 | _::L,k+1=>getA L k
theorem tY {S:List ax}{k:Nat}{X A:ax}(I:getA S k=some X): getA (A::S) (k+1)=some X:=I
def setA : List ax→Nat→ax→List ax
 | [],_,_=>[]
 | _::L,0,B=>B::L
 | A::L,k+1,B=>A::setA L k B
def aU : List ax→Nat→List ax
 | [],_=>[]
 | _::L,0=>L
 | A::L,k+1=>A::aU L k
def bringA (S:List ax): List Nat→List ax
 | []=>S
 | k::ks=>match getA S k with
  | some A=>A::bringA (aU S k) ks
  | none=>[]
def LK (k:Nat): List Nat→Nat
 | []=>0
 | x::l=>cond (Nat.blt x k) (LK k l+1) (LK k l)
def V5 : List Nat→List Nat→List Nat
 | _,[]=>[]
 | seen,k::ks=>(k-LK k seen)::V5 (k::seen) ks
theorem NN {A B:ax}{L:List ax}{m r:PM}(h:(star (A::B::L)).p m r): (star (B::A::L)).p m r:=by
 obtain ⟨a,b,U,h2,h3,h4,c,d,g1,g2,g3,g4,g5⟩:=h
 have J:a.dj c:=PM.nB U (PM.le_refl _) g2
 have I:a.dj d:=PM.nB U (PM.le_refl _) g3
 exact ⟨c,a.un d,PM.pT (PM.CW J (PM.pT g1)),PM.le_trans g2 h3,PM.CV h2 (PM.le_trans g3 h3),g4,a,d,I,PM.G4 _ _,PM.G5 I,h4,g5⟩
theorem y_ {A:ax}{L I:List ax}(h:∀m r,(star L).p m r→(star I).p m r){m r:PM}(hs:(star (A::L)).p m r): (star (A::I)).p m r:=by
 obtain ⟨a,b,J,U,h3,h4,h5⟩:=hs
 exact ⟨a,b,J,U,h3,h4,h _ _ h5⟩
theorem zu : ∀ {S:List ax} {k:Nat} {A:ax},getA S k=some A→∀m r,(star S).p m r→(star (A::aU S k)).p m r:=by
 intro S
 induction S with
 | nil=>intro k A h; cases h
 | cons B S I =>
  intro k A h m r hs
  cases k with
  | zero=>simp only [getA] at h; injection h with h; subst h; exact hs
  | succ k =>
   simp only [getA] at h
   exact NN (y_ (I h) hs)
theorem zy {A:ax}{L:List ax}{m r:PM}(h:(star (A::L)).p m r): (star L).p m r:=by
 obtain ⟨a,b,U,h2,I,h4,J⟩:=h
 exact ax.up J I (PM.le_refl _)
theorem NO {A:ax}{L:List ax}{m r:PM}(h:(star (A::L)).p m r): A.p m r:=by
 obtain ⟨a,b,U,I,h3,J,h5⟩:=h
 exact ax.up J I (PM.le_refl _)
theorem CX : ∀(ks:List Nat) (S:List ax) (m r:PM),(star S).p m r→(bringA S ks=[]∨True)→(star (bringA S ks)).p m r:=by
 intro ks
 induction ks with
 | nil=>intro S m r h _; exact h
 | cons k ks I =>
  intro S m r h _
  simp only [bringA]
  cases J:getA S k with
  | none=>trivial
  | some A=>exact y_ (fun m r h=>I _ m r h (.inr aa)) (zu J m r h)
theorem G7 {L S:List ax}: ∀m r,(star (star L::S)).p m r↔(star (L++S)).p m r:=by
 induction L with
 | nil =>
  intro m r
  constructor
  ·intro h; exact zy h
  ·intro h; exact ⟨fun _=>none,m,fun _=>.inl rfl,fun _ _ h=>(by cases h),PM.le_refl _,aa,h⟩
 | cons A L ih =>
  intro m r
  constructor
  ·rintro ⟨a,b,J,h2,h3,⟨c,d,g1,U,g3,g4,g5⟩,h5⟩
   have I:c.dj b:=PM.nB J U (PM.le_refl _)
   have BA:d.dj b:=PM.nB J g3 (PM.le_refl _)
   exact ⟨c,d.un b,PM.pT (PM.CW (PM.pT g1) (PM.pT I)),PM.le_trans U h2,PM.CV (PM.le_trans g3 h2) h3,g4,(ih _ _).1 ⟨d,b,BA,PM.G4 _ _,PM.G5 BA,g5,h5⟩⟩
  ·rintro ⟨c,e,J,h2,h3,h4,h5⟩
   obtain ⟨d,b,g1,U,g3,g4,g5⟩:=(ih _ _).2 h5
   have uA:c.dj d:=PM.nB J (PM.le_refl _) U
   have I:c.dj b:=PM.nB J (PM.le_refl _) g3
   exact ⟨c.un d,b,PM.CW I g1,PM.CV h2 (PM.le_trans U h3),PM.le_trans g3 h3,⟨c,d,uA,PM.G4 _ _,PM.G5 uA,h4,g4⟩,g5⟩
structure Sat (h:H)(S:List ax): Prop where
 wf:mA h
 ok:∃m r,PM.le m (T.get h.tr)∧PM.le r (T.get h.tr)∧PM.dj m r∧(star S).p m r
section
variable {h h':H} {S:List ax} {A B:ax}
theorem Sat.map {S':List ax}(s:Sat h S)(I:∀m r,(star S).p m r→(star S').p m r): Sat h S':=by
 obtain ⟨m,r,J,U,h3,h4⟩:=s.ok
 exact ⟨s.wf,m,r,J,U,h3,I _ _ h4⟩
theorem Sat.at {k:Nat}(s:Sat h S)(I:getA S k=some A): ∃m r,PM.le m (T.get h.tr)∧PM.le r (T.get h.tr)∧A.p m r:=by
 obtain ⟨m,r,J,U,h3,h4⟩:=s.ok
 exact ⟨m,r,J,U,NO (zu I m r h4)⟩
theorem Sat.take (k:Nat)(s:Sat h S)(I:getA S k=some A): Sat h (A::aU S k):=s.map (zu I)
theorem Sat.qv (ks:List Nat)(s:Sat h S): Sat h (bringA S (V5 [] ks)):=s.map fun m r h=>CX _ S m r h (.inr aa)
theorem Sat.ae (ks:List Nat)(s:Sat h S): Sat h (bringA S ks):=s.map fun m r h=>CX _ S m r h (.inr aa)
theorem Sat.drop (s:Sat h (A::S)): Sat h S:=s.map fun _ _ h=>zy h
theorem Qn : ∀(S:List ax) (k:Nat) (m r:PM),(star S).p m r→(star (aU S k)).p m r:=by
 intro S
 induction S with
 | nil=>intro k m r h; exact h
 | cons B S I =>
  intro k m r h
  cases k with
  | zero=>exact zy h
  | succ k=>exact y_ (I k) h
theorem Sat.del (k:Nat)(s:Sat h S): Sat h (aU S k):=s.map (Qn S k)
theorem Sat.fY (s:Sat h (A::S))(he:cU A B): Sat h (B::S):=s.map fun m r ⟨a,b,I,J,U,h4,h5⟩=>⟨a,b,I,J,U,he _ _ h4,h5⟩
theorem Sat.dup (s:Sat h (A::S))(J:aH A): Sat h (A::A::S):=s.map fun m r hs=>by
 obtain ⟨a,b,U,h2,h3,I,h5⟩:=hs
 exact ⟨fun _=>none,m,fun _=>.inl rfl,fun _ _ h=>(by cases h),PM.le_refl _,J _ _ I,a,b,U,h2,h3,I,h5⟩
theorem Sat.gB {φ:Prop}(s:Sat h S)(I:φ): Sat h (pu φ::S):=s.map fun m _ hs=>⟨fun _=>none,m,fun _=>.inl rfl,fun _ _ h=>(by cases h),PM.le_refl _,I,hs⟩
theorem Sat.two {C:ax}(s:Sat h (A::B::S))(I:aH A)(J:aH B)(U:∀m r,A.p m r→B.p m r→C.p m r): Sat h (C::S):=s.map fun m r hs=>by
 obtain ⟨a,b,h1,h2,h3,h4,c,d,g1,g2,g3,g4,g5⟩:=hs
 exact ⟨fun _=>none,d,fun _=>.inl rfl,fun _ _ h=>(by cases h),PM.le_trans g3 h3,U _ _ (I _ _ h4) (J _ _ g4),g5⟩
theorem gu {α:Type}{f:α→ax}: Sat h (xs f::S)↔∃x,Sat h (f x::S):=by
 constructor
 ·intro s
  obtain ⟨m,r,I,J,U,a,b,g1,g2,g3,⟨x,g4⟩,g5⟩:=s.ok
  exact ⟨x,s.wf,m,r,I,J,U,a,b,g1,g2,g3,g4,g5⟩
 ·rintro ⟨x,s⟩
  exact s.fY fun m r h=>⟨x,h⟩
theorem eR {φ:Prop}: Sat h (pu φ::S)↔φ∧Sat h S:=by
 constructor
 ·intro s
  obtain ⟨m,r,I,U,h3,a,b,g1,g2,g3,J,g5⟩:=s.ok
  exact ⟨J,s.drop⟩
 ·rintro ⟨I,s⟩; exact s.gB I
theorem en {L:List ax}: Sat h (star L::S)↔Sat h (L++S) :=
 ⟨fun s=>s.map fun m r hs=>(G7 m r).1 hs,fun s=>s.map fun m r hs=>(G7 m r).2 hs⟩
theorem Sat.row {k id:Nat}{o:Obj}(s:Sat h S)(I:getA S k=some (pt id o)): T.get h.tr id=some o:=by
 obtain ⟨m,r,J,h2,U⟩:=s.at I
 exact J _ _ U
theorem Sat.ne {i j:Nat}{o o':Obj}(s:Sat h (pt i o::pt j o'::S)): i≠j:=by
 rintro rfl
 obtain ⟨m,r,h1,h2,h3,a,b,I,g2,g3,J,c,d,k1,k2,k3,U,k5⟩:=s.ok
 have e1:a i=some o:=J
 have e2:b i=some o':=k2 _ _ U
 rcases I i with e | e
 ·rw [e1] at e; cases e
 ·rw [e2] at e; cases e
theorem V6 {m:PM}{t:T Obj}{id:Nat}{o:Option Obj}(hm:m.le (T.get t)): (m.upd id o).le (T.get (t.set id o)):=by
 intro i x I
 rw [a_]
 simp only [PM.upd] at I
 split
 ·rename_i e; rw [aj e] at I; exact I
 ·rename_i e; rw [af e] at I; exact hm i x I
theorem G8 {m:PM}{h:H}{id:Nat}{o:Option Obj}(hm:m.le (T.get h.tr))(J:m id=none): m.le (T.get (h.put id o).tr):=by
 intro i x I
 rw [b8]
 split
 ·rename_i e; subst e; rw [J] at I; cases I
 ·exact hm i x I
theorem Qo : ∀ {S:List ax} {k id:Nat} {o o':Obj},getA S k=some (pt id o)→∀m r,(star S).p m r→m id=some o∧(star (setA S k (pt id o'))).p (m.upd id (some o')) r:=by
 intro S
 induction S with
 | nil=>intro k id o o' h; cases h
 | cons B S ih =>
  intro k id o o' J m r hs
  obtain ⟨a,b,h1,h2,h3,h4,h5⟩:=hs
  cases k with
  | zero =>
   simp only [getA] at J
   injection J with J
   subst J
   have U:a id=some o:=h4
   have hb:b id=none:=by
    rcases h1 id with e | e
    ·rw [U] at e; cases e
    ·exact e
   refine ⟨h2 _ _ U,a.upd id (some o'),b,fun i => ?_,fun i x I => ?_,fun i x I => ?_,?_,h5⟩
   ·by_cases e:i=id
    ·right; rw [e]; exact hb
    ·simp only [PM.upd,af e]; exact h1 i
   ·simp only [PM.upd] at I ⊢
    split
    ·rename_i e; rw [aj e] at I; exact I
    ·rename_i e; rw [af e] at I; exact h2 i x I
   ·simp only [PM.upd]
    split
    ·rename_i e; subst e; rw [hb] at I; cases I
    ·exact h3 i x I
   ·show (a.upd id (some o')) id=some o'
    simp [PM.upd]
  | succ k =>
   simp only [getA] at J
   obtain ⟨g1,g2⟩:=ih (o':=o') J b r h5
   have U:a id=none:=by
    rcases h1 id with e | e
    ·exact e
    ·rw [g1] at e; cases e
   refine ⟨h3 _ _ g1,a,b.upd id (some o'),fun i => ?_,fun i x I => ?_,fun i x I => ?_,h4,g2⟩
   ·by_cases e:i=id
    ·left; rw [e]; exact U
    ·simp only [PM.upd,af e]; exact h1 i
   ·simp only [PM.upd]
    split
    ·rename_i e; subst e; rw [U] at I; cases I
    ·exact h2 i x I
   ·simp only [PM.upd] at I ⊢
    split
    ·rename_i e; rw [aj e] at I; exact I
    ·rename_i e; rw [af e] at I; exact h3 i x I
theorem Sat.put {k id:Nat}{o o':Obj}(s:Sat h S)(hk:getA S k=some (pt id o)): Sat (h.put id (some o')) (setA S k (pt id o')):=by
 obtain ⟨m,r,I,h2,J,h4⟩:=s.ok
 obtain ⟨U,g2⟩:=Qo (o':=o') hk m r h4
 have hr:r id=none:=by
  rcases J id with e | e
  ·rw [U] at e; cases e
  ·exact e
 refine ⟨s.wf.put (s.wf _ _ (I _ _ U)) _,m.upd id (some o'),r,V6 I,G8 h2 hr,fun i => ?_,g2⟩
 by_cases e:i=id
 ·right; rw [e]; exact hr
 ·simp only [PM.upd,af e]; exact J i
theorem Sat.new (s:Sat h S)(o:Obj): Sat (h.new o) (pt h.next o::S):=by
 obtain ⟨m,r,U,h2,h3,h4⟩:=s.ok
 have hm:m h.next=none:=by
  cases e:m h.next with
  | none=>rfl
  | some x=>exact absurd (s.wf _ _ (U _ _ e)) (Nat.lt_irrefl _)
 have hr:r h.next=none:=by
  cases e:r h.next with
  | none=>rfl
  | some x=>exact absurd (s.wf _ _ (h2 _ _ e)) (Nat.lt_irrefl _)
 have J:∀(q:PM),q.le (T.get h.tr)→q h.next=none→q.le (T.get (h.new o).tr):=fun q hq hn i x I=>by
  rw [f_]
  split
  ·rename_i e; subst e; rw [hn] at I; cases I
  ·exact hq i x I
 refine ⟨s.wf.new o,m.upd h.next (some o),r,fun i x I => ?_,J r h2 hr,fun i => ?_,fun i=>if i=h.next then some o else none,m,fun i => ?_,fun i x I => ?_,fun i x I => ?_,?_,h4⟩
 ·rw [f_]
  simp only [PM.upd] at I
  split
  ·rename_i e; rw [aj e] at I; exact I
  ·rename_i e; rw [af e] at I; exact U i x I
 ·by_cases e:i=h.next
  ·right; rw [e]; exact hr
  ·simp only [PM.upd,af e]; exact h3 i
 ·by_cases e:i=h.next
  ·right; rw [e]; exact hm
  ·left; simp [e]
 ·simp only [PM.upd]
  by_cases e:i=h.next
  ·simpa [e] using I
  ·simp [e] at I
 ·simp only [PM.upd]
  split
  ·rename_i e; subst e; rw [hm] at I; cases I
  ·exact I
 ·show (if h.next=h.next then some o else none)=some o
  simp
theorem Sat.kill {id:Nat}{o:Obj}(s:Sat h (pt id o::S)): Sat (h.put id none) S:=by
 obtain ⟨m,r,J,h2,U,a,b,g1,g2,g3,g4,g5⟩:=s.ok
 have I:a id=some o:=g4
 have hb:b id=none:=by
  rcases g1 id with e | e
  ·rw [I] at e; cases e
  ·exact e
 have hr:r id=none:=by
  rcases U id with e | e
  ·rw [g2 _ _ I] at e; cases e
  ·exact e
 exact ⟨s.wf.put (s.wf _ _ (J _ _ (g2 _ _ I))) _,b,r,G8 (PM.le_trans g3 J) hb,G8 h2 hr,PM.nB U g3 (PM.le_refl _),g5⟩
theorem Sat.freeze {id:Nat}{o:Obj}(s:Sat h (pt id o::S)): Sat h (ro id o::S):=by
 obtain ⟨m,r,U,h2,h3,a,b,g1,g2,g3,g4,g5⟩:=s.ok
 have J:a id=some o:=g4
 have hb:b id=none:=by
  rcases g1 id with e | e
  ·rw [J] at e; cases e
  ·exact e
 have hr:r id=none:=by
  rcases h3 id with e | e
  ·rw [g2 _ _ J] at e; cases e
  ·exact e
 have hle:r.le (r.upd id (some o)):=fun i x I=>by
  simp only [PM.upd]
  split
  ·rename_i e; subst e; rw [hr] at I; cases I
  ·exact I
 refine ⟨s.wf,b,r.upd id (some o),PM.le_trans g3 U,fun i x I => ?_,fun i => ?_,fun _=>none,b,fun _=>.inl rfl,fun _ _ h=>(by cases h),PM.le_refl _,?_,ax.up g5 (PM.le_refl _) hle⟩
 ·simp only [PM.upd] at I
  split at I
  ·rename_i e; subst e; injection I with I; subst I; exact U _ _ (g2 _ _ J)
  ·exact h2 i x I
 ·by_cases e:i=id
  ·left; rw [e]; exact hb
  ·simp only [PM.upd,af e]; exact PM.nB h3 g3 (PM.le_refl _) i
 ·show (r.upd id (some o)) id=some o
  simp [PM.upd]
theorem Sat.cX {k:Nat}(s:Sat h S)(J:eN k [] h h'): Sat h' S:=by
 obtain ⟨m,r,h1,h2,h3,h4⟩:=s.ok
 have I:∀(q:PM),q.le (T.get h.tr)→q.le (T.get h'.tr):=fun q U i x hx=>by
  rw [J.get i (s.wf _ _ (U _ _ hx)) mo]
  exact U _ _ hx
 exact ⟨J.wf,m,r,I m h1,I r h2,h3,h4⟩
theorem Sat.V7 {k:Nat}{X:List Nat}{m₀:PM}(s:Sat h (A::S))(hk:eN k X h h')(hX:∀m r,PM.le m (T.get h.tr)→PM.le r (T.get h.tr)→A.p m r→∀i∈X,m i≠none)
 (hm:PM.le m₀ (T.get h'.tr))(hB:∀r,B.p m₀ r)(hn:∀i,m₀ i≠none→i∈X∨h.next≤i): Sat h' (B::S):=by
 obtain ⟨m,r,h1,h2,h3,a,b,g1,g2,g3,g4,g5⟩:=s.ok
 have U:∀i∈X,a i≠none:=hX a r (PM.le_trans g2 h1) h2 g4
 have Zv:∀i∈X,b i=none:=fun i hi=>by
  rcases g1 i with e | e
  ·exact absurd e (U i hi)
  ·exact e
 have Zw:∀i∈X,r i=none:=fun i hi=>by
  cases e:a i with
  | none=>exact absurd e (U i hi)
  | some o =>
   rcases h3 i with J | J
   ·rw [g2 _ _ e] at J; cases J
   ·exact J
 have Zx:∀(q:PM),q.le (T.get h.tr)→(∀i∈X,q i=none)→q.le (T.get h'.tr):=fun q hq hz i x hx=>by
  rw [hk.get i (s.wf _ _ (hq _ _ hx)) (fun hi=>by rw [hz i hi] at hx; cases hx)]
  exact hq _ _ hx
 have I:∀(q:PM),q.le (T.get h.tr)→(∀i∈X,q i=none)→m₀.dj q:=fun q hq hz i=>by
  cases e:m₀ i with
  | none=>exact .inl rfl
  | some x =>
   right
   rcases hn i (by rw [e]; simp) with hi | hi
   ·exact hz i hi
   ·cases J:q i with
    | none=>rfl
    | some y=>exact absurd (s.wf _ _ (hq _ _ J)) (Nat.not_lt.2 hi)
 have u9:=Zx b (PM.le_trans g3 h1) Zv
 have hd:=I b (PM.le_trans g3 h1) Zv
 exact ⟨hk.wf,m₀.un b,r,PM.CV hm u9,Zx r h2 Zw,PM.CW (I r h2 Zw) (PM.nB h3 g3 (PM.le_refl _)),m₀,b,hd,PM.G4 _ _,PM.G5 hd,hB r,g5⟩
end
theorem bM (v:V)(l:List Nat): cU (bK v l) (cY v l):=fun _ _ h=>.inl (sL.view h)
theorem cJ (v:V)(l:List Nat): cU (Bz v l) (cY v l):=fun _ _ h=>.inr h
theorem aH.ct (v:V)(l:List Nat): aH (.ct v l):=fun _ _ h=>h
section
variable {h h':H} {S:List ax} {A X:ax} {v:V} {l:List Nat}
theorem Sat.aL {k:Nat}(s:Sat h S)(J:getA S k=some X)(U:cU X (cY v l)): View h v l:=by
 obtain ⟨m,r,h1,h2,h3⟩:=s.at J
 rcases U _ _ h3 with I | I
 ·exact ik.up I h1
 ·exact ik.up I h2
theorem Sat.buf {k:Nat}(s:Sat h S)(I:getA S k=some (bK v l)): j4 h v l:=by
 obtain ⟨m,r,J,h2,U⟩:=s.at I
 exact sL.up (l:=l) U J
theorem Kj {m:PM}(J:sL m v l): ∀i∈rowIds v,m i≠none:=by
 intro i hi
 obtain ⟨_,U⟩:=J
 rcases U with ⟨rfl,_⟩ | ⟨id,cs,c,rfl,I,h3⟩ | ⟨id,rfl,I,h3⟩
 ·cases hi
 ·simp [rowIds] at hi; subst hi; rw [I]; simp
 ·simp [rowIds] at hi; subst hi; rw [I]; simp
theorem Kk (hb:j4 h v l): sL (fun i=>if i∈rowIds v then T.get h.tr i else none) v l:=by
 obtain ⟨h1,I⟩:=hb
 refine ⟨h1,?_⟩
 rcases I with I | ⟨id,cs,c,rfl,J,U⟩ | ⟨id,rfl,J,U⟩
 ·exact .inl I
 ·exact .inr (.inl ⟨id,cs,c,rfl,by simp [rowIds,J],U⟩)
 ·exact .inr (.inr ⟨id,rfl,by simp [rowIds,J],U⟩)
theorem NP (L:List Nat): PM.le (fun i=>if i∈L then T.get h.tr i else none) (T.get h.tr):=fun i x I=>by
 simp only at I
 split at I
 ·exact I
 ·cases I
theorem Sat.G9 {k:Nat}(s:Sat h S)(I:eN k [] h h')(J:j4 h' v l)(U:∀i∈rowIds v,h.next≤i): Sat h' (bK v l::S):=by
 have s':Sat h (pu True::S):=s.gB aa
 refine s'.V7 (B:=bK v l) (m₀:=fun i=>if i∈rowIds v then T.get h'.tr i else none) I (fun _ _ _ _ _ i hi=>by cases hi) (NP _) (fun _=>Kk J) (fun i hi=>.inr ?_)
 split at hi
 ·rename_i e; exact U i e
 ·exact absurd rfl hi
theorem Sat.A3 {k:Nat}{v':V}{I:List Nat}(s:Sat h (bK v l::S))(J:eN k (rowIds v) h h')(U:j4 h' v' I)(hn:∀i∈rowIds v',i∈rowIds v∨h.next≤i): Sat h' (bK v' I::S):=by
 refine s.V7 (B:=bK v' I) (m₀:=fun i=>if i∈rowIds v' then T.get h'.tr i else none) J (fun _ _ _ _ h=>Kj h) (NP _) (fun _=>Kk U) (fun i hi => ?_)
 split at hi
 ·rename_i e; exact hn i e
 ·exact absurd rfl hi
theorem Sat.fN (s:Sat h (bK v l::S)): Sat h (Bz v l::S):=by
 obtain ⟨m,r,J,h2,U,a,b,g1,g2,g3,g4,g5⟩:=s.ok
 have I:r.dj a:=PM.pT (PM.nB U g2 (PM.le_refl _))
 refine ⟨s.wf,b,r.un a,PM.le_trans g3 J,PM.CV h2 (PM.le_trans g2 J),PM.pT (PM.CW (PM.pT (PM.nB U g3 (PM.le_refl _))) g1),fun _=>none,b,fun _=>.inl rfl,fun _ _ h=>(by cases h),PM.le_refl _,?_,ax.up g5 (PM.le_refl _) (PM.G4 _ _)⟩
 exact (sL.view g4).up (PM.G5 I)
end
theorem V8 {a b c d:H}{l:List H}{p:H→Prop}(J:p a)(U:p b)(hc:p c)(hd:p d): ∀x∈((a::b::c::d::l).drop 0).take 4,p x:=by
 intro x I
 simp only [d_,DX,pN,fo,mo,rD] at I
 rcases I with rfl | rfl | rfl | rfl
 ·exact J
 ·exact U
 ·exact hc
 ·exact hd
section
variable {P:Program} {h:H} {S:List ax} {k id off n:Nat} {cs:List V} {st:Bool} {v u:V} {t:TypeId}
theorem Sat.ld (s:Sat h S)(I:getA S k=some (pt id (.cells n cs st)))(J:b_ P t=some false)(U:nth cs off=some v): loadV P h t (.ptr id off)=some v:=Kh J (s.row I) U
theorem Sat.fM (s:Sat h S)(I:getA S k=some (pt id (.cells n cs st)))(J:b_ P t=some true)(hs:bJ P t=some n): loadV P h t (.ptr id 0)=some (.agg cs):=Am.fM J hs (s.row I)
theorem Sat.ee (s:Sat h S)(J:getA S k=some (pt id (.cells n cs false)))(hs:bJ P t=some 1)(hl:cs.length=n)(ho:off<n)(hv:v.cells=[v])(I:storable v=true):
  ∃h₁,g6 P h t (.ptr id off) v=some h₁∧Sat h₁ (setA S k (pt id (.cells n (cs.set off v) false))):=by
 refine ⟨h.put id (some (.cells n (cs.set off v) false)),?_,s.put J⟩
 simp only [g6,hs,hv,bl,bY,jl,jY,I,Bool.and_true]
 rw [show Nat.beq (0+1) 1=true from rfl,ag]
 simp only [wrN,s.row J,bl,bY]
 rw [aQ.2 (show off+(0+1)≤n by omega),ag]
 congr 3
 rw [JW,aj (by omega)]
 cases U:(Nat.beq off 0&&Nat.beq (0+1) n) with
 | true =>
  simp only [aZ,beq_iff] at U
  obtain ⟨rfl,rfl⟩:=U
  rw [ag]
  have:cs.drop (0+1)=[]:=iB (by omega)
  simp [this]
 | false=>rw [ay]; rfl
theorem Sat.stN {l:List V}(s:Sat h S)(J:getA S k=some (pt id (.cells n cs false)))(hs:bJ P t=some l.length)(hl:cs.length=n)(ho:off+l.length≤n)(I:l.all storable=true):
  ∃h₁,g6 P h t (.ptr id off) (.agg l)=some h₁∧Sat h₁ (setA S k (pt id (.cells n (cs.take off++(l++cs.drop (off+l.length))) false))):=by
 refine ⟨h.put id (some (.cells n (cs.take off++(l++cs.drop (off+l.length))) false)),?_,s.put J⟩
 simp only [g6,hs,V.cells,I,dx,iD,ag,wrN,s.row J]
 rw [aQ.2 ho,ag]
 congr 3
 cases U:(Nat.beq off 0&&Nat.beq l.length n) with
 | true =>
  simp only [aZ,beq_iff] at U
  obtain ⟨rfl,hn⟩:=U
  rw [ag]
  have:cs.drop (0+l.length)=[]:=iB (by omega)
  rw [this]
  simp
 | false=>rw [ay]
end
section
variable {C:dF} {az:Nat} {E:List (Nat×V)} {h:H} {R:List (Nat×V)→H→Prop} {L rest:List Oper} {o:Oper} {d:Nat} {S:List ax}
theorem aB.cT {cs:List V}(s:Sat h S)(I:wantE L E o.guard=some true)(J:o.dst=some d)(U:Nat.blt d az=true)(ho:opE C.P E h o.op=some (.ptr h.next 0,newRow h cs))
 (hr:∀id h₁,Sat h₁ (pt id (.cells cs.length cs false)::S)→aB C az L rest ((d,.ptr id 0)::E) h₁ R): aB C az L (o::rest) E h R :=
 aB.op I J U ho (hr _ _ (s.new _))
theorem aB.eA {t:TypeId}{x y:Operand}{v u:V}{S':List ax}(J:wantE L E o.guard=some true)(U:o.dst=none)(I:o.op=.store t x y)(hx:lookO E x=some v)(hy:lookO E y=some u)
 (ho:∃h₁,g6 C.P h t v u=some h₁∧Sat h₁ S')(hr:∀h₁,Sat h₁ S'→aB C az L rest E h₁ R): aB C az L (o::rest) E h R:=by
 obtain ⟨h₁,e1,e2⟩:=ho
 exact aB.Si J U (by rw [I]; exact wD hx hy e1) (hr h₁ e2)
theorem WP.label {Q:Ex→List (Nat×V)→H→Prop}{l:Nat}(I:Q .normal E h): WP C az (.label l) E h Q:=fun env J=>⟨1,.normal,env,h,E,rfl,J,I⟩
theorem WP.split {Q:Ex→List (Nat×V)→H→Prop}{x:Operand}{a b:Code}{t:Bool}(I:lookO E x=some (.bool t))(J:t=true→WP C az a E h Q)(U:t=false→WP C az b E h Q): WP C az (.cond x a b) E h Q:=by
 refine WP.cond I ?_
 cases t with
 | true=>exact J rfl
 | false=>exact U rfl
theorem WP.LL {Q:Ex→List (Nat×V)→H→Prop}{x:Operand}{a b:Code}{t:Bool}(I:lookO E x=some (.bool t))(J:t=true)(U:WP C az a E h Q): WP C az (.cond x a b) E h Q:=by
 subst J; exact WP.cond I U
theorem WP.Sn {Q:Ex→List (Nat×V)→H→Prop}{x:Operand}{a b:Code}{t:Bool}(I:lookO E x=some (.bool t))(J:t=false)(U:WP C az b E h Q): WP C az (.cond x a b) E h Q:=by
 subst J; exact WP.cond I U
end
section
variable {P:Program} {E:List (Nat×V)} {h h₁:H} {x y a b:Operand} {v u r:V}
theorem Sq {t i:Nat}(I:lookO E x=some v)(J:sj P t v i=some r): opE P E h (.field t x i)=some (r,h):=by simp only [opE,j_,I,J,bA]
theorem X_ {t:TypeId}: opE P E h (.makeMap t none)=some (.map h.next,h.new (.map [] 0)):=rfl
theorem gT {t:TypeId}{ok:Bool}(I:lookO E x=some v)(J:lookO E y=some u)(U:fq P h t v u ok=some r): opE P E h (.lookup t x y ok)=some (r,h):=by simp only [opE,vg,I,J,U,bA]
theorem Sr {cs:List V}{t i off:Nat}(I:sj P t (.agg cs) i=nth cs off)(J:nth cs off=some r): sj P t (.agg cs) i=some r:=by rw [I,J]
theorem jJ {s d:TypeId}{k k':IntKind}{n:Int}{I:TypeDesc}(hs:P.underlying s=some I)(J:P.underlying d=some (.int k'))(U:k'.wrap n=n): convV P h s d (.int k n)=some (.int k' n,h):=by simp only [convV,hs,J,U]
theorem G_ {t e:TypeId}{i o n:Nat}{c:Cap}(hu:P.underlying t=some (.slice e)): lenV P h t (.sl i o n c)=some (.int .i64 n):=by simp only [lenV,hu]
theorem TO {t e:TypeId}(hu:P.underlying t=some (.slice e)): lenV P h t .bz=some (.int .i64 0):=by simp only [lenV,hu]
theorem bj {t e:TypeId}{l:List Nat}(hu:P.underlying t=some (.slice e))(I:View h v l): lenV P h t v=some (.int .i64 l.length):=by
 obtain ⟨_,I⟩:=I
 rcases I with ⟨rfl | ⟨J,rfl⟩,rfl⟩ | ⟨id,off,cap,n,cs,st,rfl,_⟩ <;> simp [lenV,hu]
theorem He {t:TypeId}{I:TypeDesc}(hu:P.underlying t=some I)(J:(match I with | .interface _=>false | _=>true)=true): makeIfaceV P t v=some (.iface t v):=by
 simp only [makeIfaceV,hu]
 cases I <;> first | rfl | simp at J
end
section
theorem aY {n:Int}(I : -9223372036854775808≤n)(J:n<9223372036854775808): IntKind.wrap .i64 n=n:=by
 by_cases h:0≤n
 ·have e:(n%(2^(IntKind.i64).bits:Int))=n:=by simp only [IntKind.bits]; omega
  have g:¬ (n≥(2^((IntKind.i64).bits-1):Int)):=by simp only [IntKind.bits]; omega
  simp only [IntKind.wrap,e,g,rA,mu,eY,bN]
 ·have e:(n%(2^(IntKind.i64).bits:Int))=n+18446744073709551616:=by simp only [IntKind.bits]; omega
  have g:(n+18446744073709551616≥(2^((IntKind.i64).bits-1):Int)):=by simp only [IntKind.bits]; omega
  simp only [IntKind.wrap,e,g,AR,IntKind.signed,iD,bQ]
  simp only [IntKind.bits]
  omega
theorem fb {n:Int}(I:0≤n)(J:n<18446744073709551616): IntKind.wrap .u64 n=n:=by
 simp only [IntKind.wrap,IntKind.bits,IntKind.signed,fh,eY,bN]
 omega
theorem TP {n:Int}(I:0≤n)(J:n<4294967296): IntKind.wrap .u32 n=n:=by
 simp only [IntKind.wrap,IntKind.bits,IntKind.signed,fh,eY,bN]
 omega
theorem V9 {n:Int}(I:0≤n)(J:n<256): IntKind.wrap .u8 n=n:=by
 simp only [IntKind.wrap,IntKind.bits,IntKind.signed,fh,eY,bN]
 omega
variable {P:Program} {h:H} {t:TypeId} {x y:Operand} {a b:Int}
theorem bU {k:IntKind}(hw:k.wrap (a+b)=a+b): binV P h .add t x y (.int k a) (.int k b)=some (.int k (a+b)):=by
 simp only [binV,dK,ag,intV,hw]
theorem lV {k:IntKind}(hw:k.wrap (a-b)=a-b): binV P h .sub t x y (.int k a) (.int k b)=some (.int k (a-b)):=by
 simp only [binV,dK,ag,intV,hw]
theorem BX {k:IntKind}(hw:k.wrap (a*b)=a*b): binV P h .mul t x y (.int k a) (.int k b)=some (.int k (a*b)):=by
 simp only [binV,dK,ag,intV,hw]
theorem cB {k:IntKind}: binV P h .eql t x y (.int k a) (.int k b)=some (.bool (decide (a=b))):=by
 simp only [binV,dK,ag,intV]
 congr 2
 cases I:intBeq a b with
 | true=>simp [vf I]
 | false =>
  by_cases he:a=b
  ·subst he; rw [lU] at I; cases I
  ·simp [he]
theorem aV {k:IntKind}: binV P h .neq t x y (.int k a) (.int k b)=some (.bool (!decide (a=b))):=by
 simp only [binV,dK,ag,intV]
 congr 3
 cases I:intBeq a b with
 | true=>simp [vf I]
 | false =>
  by_cases he:a=b
  ·subst he; rw [lU] at I; cases I
  ·simp [he]
theorem bB {k:IntKind}: binV P h .lss t x y (.int k a) (.int k b)=some (.bool (decide (a<b))):=by simp only [binV,dK,ag,intV]
theorem LM {k:IntKind}: binV P h .leq t x y (.int k a) (.int k b)=some (.bool (decide (a≤b))):=by simp only [binV,dK,ag,intV]
theorem ep {k:IntKind}: binV P h .gtr t x y (.int k a) (.int k b)=some (.bool (decide (a>b))):=by simp only [binV,dK,ag,intV]
theorem nC {k:IntKind}: binV P h .geq t x y (.int k a) (.int k b)=some (.bool (decide (a≥b))):=by simp only [binV,dK,ag,intV]
theorem vE : ∀ {l m:List Nat},natsBeq l m=decide (l=m):=by
 intro l
 induction l with
 | nil=>intro m; cases m <;> simp [natsBeq]
 | cons a l J =>
  intro m
  cases m with
  | nil=>simp [natsBeq]
  | cons b m =>
   simp only [natsBeq]
   by_cases I:a=b
   ·subst I; rw [dx,ag,J]; simp
   ·rw [cS I,ay]; simp [I]
theorem xp {l m:List Nat}: binV P h .eql t x y (.str l) (.str m)=some (.bool (decide (l=m))):=by simp only [binV,strV,vE]
end
section
variable {C:dF} {az:Nat} {E:List (Nat×V)} {h:H} {R:List (Nat×V)→H→Prop} {L rest:List Oper} {o:Oper} {d:Nat} {S:List ax} {p:Bool}
theorem aB.qx (I:wantE L E o.guard=some true)(J:o.dst=some d)(U:Nat.blt d az=true)(ho:opE C.P E h o.op=some (.bool p,h))(hp:p=true)(hw:aB C az L rest ((d,.bool true)::E) h R): aB C az L (o::rest) E h R:=by
 subst hp; exact aB.op I J U ho hw
theorem aB.nD (I:wantE L E o.guard=some true)(J:o.dst=some d)(U:Nat.blt d az=true)(ho:opE C.P E h o.op=some (.bool p,h))(hp:p=false)(hw:aB C az L rest ((d,.bool false)::E) h R): aB C az L (o::rest) E h R:=by
 subst hp; exact aB.op I J U ho hw
theorem aB.V_ (I:wantE L E o.guard=some true)(J:o.dst=some d)(U:Nat.blt d az=true)(ho:opE C.P E h o.op=some (.bool p,h))(ht:p=true→aB C az L rest ((d,.bool true)::E) h R)(hf:p=false→aB C az L rest ((d,.bool false)::E) h R): aB C az L (o::rest) E h R:=by
 cases p with
 | true=>exact aB.op I J U ho (ht rfl)
 | false=>exact aB.op I J U ho (hf rfl)
theorem aB.zB {t:TypeId}(s:Sat h S)(J:wantE L E o.guard=some true)(U:o.dst=some d)(hn:Nat.blt d az=true)(I:o.op=.makeMap t none)
 (hr:∀id h₁,Sat h₁ (pt id (.map [] 0)::S)→aB C az L rest ((d,.map id)::E) h₁ R): aB C az L (o::rest) E h R :=
 aB.op J U hn (by rw [I]; exact X_) (hr _ _ (s.new _))
theorem aB.h_ {xn:V→H→Prop}(hg:wantE L E o.guard=some true)(hd:o.dst=none)(ho:OpR C E h o xn)
 (hw:∀v h₁,xn v h₁→aB C az L rest E h₁ R): aB C az L (o::rest) E h R:=by
 intro env J
 obtain ⟨v,h₁,hr,U⟩:=ho
 obtain ⟨N,hN⟩:=U env J
 obtain ⟨M,I,h',E',h1,h2,h3⟩:=hw v h₁ hr env J
 refine ⟨Nat.max N M,I,h',E',?_,h2,h3⟩
 simp only [evOps,kT J hg,ag,mK (gz (pL N M)) hN,St.put,hd]
 exact tg (gz (pJ N M)) _ _ _ h1
variable {hs:List H} {Q:List (Nat×V)→H→List (List (Nat×V)×V)→List H→Prop}
theorem aA.qx (J:wantE L E o.guard=some true)(U:o.dst=some d)(hn:Nat.blt d az=true)(he:isEff C o.op=false)(ho:opE C.P E h o.op=some (.bool p,h))(hp:p=true)
 (hw:aA C az L rest ((d,.bool true)::E) h hs fun E' h' ts I=>Q E' h' ((E,.bool true)::ts) I): aA C az L (o::rest) E h hs Q:=by
 subst hp; exact aA.op J U hn he ho hw
theorem aA.nD (J:wantE L E o.guard=some true)(U:o.dst=some d)(hn:Nat.blt d az=true)(he:isEff C o.op=false)(ho:opE C.P E h o.op=some (.bool p,h))(hp:p=false)
 (hw:aA C az L rest ((d,.bool false)::E) h hs fun E' h' ts I=>Q E' h' ((E,.bool false)::ts) I): aA C az L (o::rest) E h hs Q:=by
 subst hp; exact aA.op J U hn he ho hw
theorem aA.V_ (U:wantE L E o.guard=some true)(hd:o.dst=some d)(hn:Nat.blt d az=true)(he:isEff C o.op=false)(ho:opE C.P E h o.op=some (.bool p,h))
 (ht:p=true→aA C az L rest ((d,.bool true)::E) h hs fun E' h' J I=>Q E' h' ((E,.bool true)::J) I)
 (hf:p=false→aA C az L rest ((d,.bool false)::E) h hs fun E' h' J I=>Q E' h' ((E,.bool false)::J) I): aA C az L (o::rest) E h hs Q:=by
 cases p with
 | true=>exact aA.op U hd hn he ho (ht rfl)
 | false=>exact aA.op U hd hn he ho (hf rfl)
theorem OpR.eA {t:TypeId}{x y:Operand}{v u:V}{S':List ax}(I:o.op=.store t x y)(J:lookO E x=some v)(U:lookO E y=some u)
 (ho:∃h₁,g6 C.P h t v u=some h₁∧Sat h₁ S'): OpR C E h o fun w h₁=>w=cz∧Sat h₁ S':=by
 obtain ⟨h₁,e1,e2⟩:=ho
 exact OpR.of (by rw [I]; exact wD J U e1) ⟨rfl,e2⟩
theorem OpR.cT {cs:List V}(s:Sat h S)(ho:opE C.P E h o.op=some (.ptr h.next 0,newRow h cs)):
  OpR C E h o fun v h₁=>∃id,v=.ptr id 0∧Sat h₁ (pt id (.cells cs.length cs false)::S) :=
 OpR.of ho ⟨_,rfl,s.new _⟩
end
theorem Gh {P:Program}{E:List (Nat×V)}{h:H}{a b t:Nat}{p v w:V}(I:look E a=some p)(J:loadV P h t p=some v)(U:look E b=some w): jz P E h [.cell a t,.tmp b]=some (.bE [v,w]):=by simp only [jz,mapO,resE,I,J,U]
theorem qy {P:Program}{E:List (Nat×V)}{h:H}{t:Nat}{v:V}(I:look E t=some v): jz P E h [.tmp t]=some v:=by simp only [jz,mapO,resE,I]
def aax : Code→Nat→Code
 | .seq a _,0=>a
 | .seq _ b,_=>b
 | .cond _ a _,0=>a
 | .cond _ _ b,_=>b
 | .block _ a,_=>a
 | .loop a,_=>a
 | .scope a,_=>a
 | c,_=>c
def cM : List Nat→Code→Code
 | [],c=>c
 | k::ks,c=>cM ks (aax c k)
section
variable {C:dF} {az:Nat} {L rest:List Oper} {E:List (Nat×V)} {h h₁:H} {R:List (Nat×V)→H→Prop} {o:Oper} {d:Nat} {v u:V} {x y:Operand} {t:TypeId} {p:Bool} {S':List ax}
theorem zc {cl:Go.Call}{k:FuncId}{first cap args:List V}{xn:V→H→Prop}(e:(wantE L E o.guard,o.dst,Nat.blt d az,o.op,cl.callee,lookO E x,lookArgs E cl.args.toList)=(some true,some d,true,Op.call cl,Callee.value x,some (.fn (.func k) first cap),some args))
 (I:Call C k (first++(args++cap)) h xn)(hw:∀v h₁,xn v h₁→aB C az L rest ((d,v)::E) h₁ R): aB C az L (o::rest) E h R:=by
  simp only [aP] at e; exact aB.call e.1 e.2.1 e.2.2.1 e.2.2.2.1 e.2.2.2.2.1 e.2.2.2.2.2.1 e.2.2.2.2.2.2 I hw
theorem zt (e:(wantE L E o.guard,o.dst,Nat.blt d az)=(some true,some d,true))(ho:opE C.P E h o.op=some (.bool p,h))(I:p=true)(hw:aB C az L rest ((d,.bool true)::E) h R): aB C az L (o::rest) E h R:=by
  simp only [aP] at e; exact aB.qx e.1 e.2.1 e.2.2 ho I hw
theorem zh (e:(wantE L E o.guard,o.dst,Nat.blt d az)=(some true,some d,true))(ho:opE C.P E h o.op=some (.bool p,h))(I:p=false)(hw:aB C az L rest ((d,.bool false)::E) h R): aB C az L (o::rest) E h R:=by
  simp only [aP] at e; exact aB.nD e.1 e.2.1 e.2.2 ho I hw
theorem zd (e:(wantE L E o.guard,o.dst,Nat.blt d az)=(some true,some d,true))(ho:opE C.P E h o.op=some (.bool p,h))(I:p=true→aB C az L rest ((d,.bool true)::E) h R)(J:p=false→aB C az L rest ((d,.bool false)::E) h R): aB C az L (o::rest) E h R:=by
  simp only [aP] at e; exact aB.V_ e.1 e.2.1 e.2.2 ho I J
theorem zS (e:(wantE L E o.guard,o.dst,o.op,lookO E x,lookO E y)=(some true,none,Op.store t x y,some v,some u))(ho:∃h₁,g6 C.P h t v u=some h₁∧Sat h₁ S')(I:∀h₁,Sat h₁ S'→aB C az L rest E h₁ R): aB C az L (o::rest) E h R:=by
  simp only [aP] at e; exact aB.eA e.1 e.2.1 e.2.2.1 e.2.2.2.1 e.2.2.2.2 ho I
end
end Go.Proofs.YtconhghphklfjaaGreat.Am
