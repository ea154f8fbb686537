/- The plain law of layers 5, 6, 14, 18 and 21: entries, times, verdicts; no program in sight. -/
import Derived.Test.YtpaipfceibcbkaaDoorM05
namespace Go.Law21
open Go.SL Go.Law05

structure Ent where
  tenant : Int
  key : List UInt8
  state : Int
  epoch : Int
  token : Int
  point : Int
  print : List UInt8
  lease : Int
  expiry : Int
  status : Int
  text : List UInt8
  method : List UInt8
  path : List UInt8
  body : List UInt8
def Ent.cells (e : Ent) : List Value := [.int .i64 e.tenant, str e.key, .int .i64 e.state, .int .i64 e.epoch, .int .i64 e.token, .int .i64 e.point, str e.print, .int .i64 e.lease, .int .i64 e.expiry, .int .i64 e.status, str e.text, str e.method, str e.path, str e.body]
abbrev entV (e : Ent) : Value := .agg e.cells.toArray
theorem Ent.one (e : Ent) : ∀ u ∈ e.cells, u.oneCell' = true := by simp [Ent.cells, Value.oneCell']
def Ent.zero : Ent := ⟨0, [], 0, 0, 0, 0, [], 0, 0, 0, [], [], [], []⟩
structure Req where
  client : Int
  serial : Int
  tenant : Int
  key : List UInt8
  method : List UInt8
  path : List UInt8
  body : List UInt8
def Req.cells (r : Req) : List Value := [.int .i64 r.client, .int .i64 r.serial, .int .i64 r.tenant, str r.key, str r.method, str r.path, str r.body]
abbrev reqV (r : Req) : Value := .agg r.cells.toArray
structure Deed where
  kind : Int
  own : Bool
  token : Int
  now : Int
  status : Int
  text : List UInt8
  req : Req
def Deed.cells (d : Deed) : List Value := [.int .u8 d.kind, .bool d.own, .int .i64 d.token, .int .i64 d.now, .int .i64 d.status, str d.text, .int .i64 d.req.client, .int .i64 d.req.serial, .int .i64 d.req.tenant, str d.req.key, str d.req.method, str d.req.path, str d.req.body]
abbrev deedV (d : Deed) : Value := .agg d.cells.toArray
structure Conf where
  workers : Int
  lease : Int
  ttl : Int
  quota : Int
  segment : Int
  disk : Int
def Conf.cells (c : Conf) : List Value := [.int .i64 c.workers, .int .i64 c.lease, .int .i64 c.ttl, .int .i64 c.quota, .int .i64 c.segment, .int .i64 c.disk]
abbrev confV (c : Conf) : Value := .agg c.cells.toArray
/-- A whole number of Go's int. -/
def i64 (n : Int) : Prop := -9223372036854775808 ≤ n ∧ n ≤ 9223372036854775807

def within (n lo hi : Int) : Int := min (max n lo) hi
def timeF (n : Int) : Int := min (max n 0) 1099511627776
def numF (n : Int) : Int := min (max n 0) 1073741824
def plusF (t s : Int) : Int := timeF (timeF t + numF s)
theorem timeF_range (n : Int) : 0 ≤ timeF n ∧ timeF n ≤ 1099511627776 := by unfold timeF; omega
theorem numF_range (n : Int) : 0 ≤ numF n ∧ numF n ≤ 1073741824 := by unfold numF; omega
def confF (c : Conf) : Conf := ⟨within c.workers 1 4, within c.lease 1 1073741824, within c.ttl 1 1073741824, within c.quota 1 200, within c.segment 500 20000, within c.disk 1000 60000⟩
def heldF (e : Ent) (now : Int) : Bool := e.state == 1 && decide (timeF now < e.lease)
def expiredF (e : Ent) (now : Int) : Bool := decide (e.expiry ≤ timeF now) && !heldF e now
def verdictF (e : Ent) (print : List UInt8) (now : Int) : Int :=
  if ¬ (e.state = 1 ∨ e.state = 2) then 1 else if expiredF e now = true then 1 else if e.print ≠ print then 4 else if e.state = 2 then 5 else if heldF e now = true then 3 else 2
def smallE (e : Ent) : Bool := decide (e.key.length ≤ 100) && decide (e.print.length ≤ 100) && decide (e.text.length ≤ 100) && decide (e.method.length ≤ 100) && decide (e.path.length ≤ 100) && decide (e.body.length ≤ 100)

/-! ### Requests -/
def Req.zero : Req := ⟨0, 0, 0, [], [], [], []⟩
def reqF (r : Req) : Option Req :=
  if (methodF r.method).isSome = true ∧ (pathF r.path).isSome = true ∧ (0 ≤ r.tenant ∧ r.tenant < 4 ∧ 0 ≤ r.client ∧ r.client < 4 ∧ 0 ≤ r.serial ∧ r.serial ≤ 1073741824) ∧ keyF r.key = true ∧ r.body.length ≤ 80 then
    some { r with method := (methodF r.method).getD [], path := (pathF r.path).getD [] } else none
theorem methodF_len (s : List UInt8) : ((methodF s).getD []).length ≤ 8 := by
  unfold methodF
  split
  · simp
  · rename_i h
    split
    · simp; omega
    · simp
theorem pathF_len (s : List UInt8) : ((pathF s).getD []).length ≤ 60 := by
  unfold pathF
  split
  · simp
  · split
    · simp
    · simp only
      generalize (if joinF _ = [] then [47] else joinF _) = o
      split
      · simp
      · simp; omega
theorem req_len {r x : Req} (h : reqF r = some x) : x.method.length ≤ 8 ∧ x.path.length ≤ 60 ∧ x.body.length ≤ 80 := by
  unfold reqF at h
  split at h
  · rename_i hh
    simp only [Option.some.injEq] at h
    subst h
    exact ⟨methodF_len _, pathF_len _, hh.2.2.2.2⟩
  · cases h

/-! ### Entries that may be -/
def sizedE (e : Ent) : Prop := e.method.length ≤ 1000 ∧ e.path.length ≤ 1000 ∧ e.body.length ≤ 1000
def namedF (e : Ent) : Bool := decide (0 ≤ e.tenant) && decide (e.tenant < 4) && keyF e.key
def askedF (e : Ent) : Bool := ((methodF e.method).getD [] != []) && ((methodF e.method).getD [] == e.method) && ((pathF e.path).getD [] != []) && ((pathF e.path).getD [] == e.path) && decide ((e.body.length : Int) ≤ 80)
def answeredF (e : Ent) : Bool := (e.status == 200 || e.status == 201 || e.status == 402) && decide (e.text.length ≤ 40)
def noAnswerF (e : Ent) : Bool := e.status == 0 && e.text == []
def noRequestF (e : Ent) : Bool := e.lease == 0 && e.method ++ e.path ++ e.body == []
def headF (e : Ent) : Bool := namedF e && (decide (1 ≤ e.epoch) && decide (e.epoch ≤ 1073741824)) && (decide (1 ≤ e.token) && decide (e.token ≤ 1073741824)) && decide (0 ≤ e.point) && decide (e.point ≤ 5) && decide (e.print.length = 32) && (decide (0 ≤ e.lease) && decide (e.lease ≤ 1099511627776)) && (decide (0 ≤ e.expiry) && decide (e.expiry ≤ 1099511627776))
def mayF (e : Ent) : Bool := headF e && (if e.state = 1 then noAnswerF e && askedF e else if e.state = 2 then noRequestF e && answeredF e else if e.state = 3 then noRequestF e && noAnswerF e else false)

/-! ### Leases -/
def lmayF (e : Ent) : Bool := e.state == 1 && mayF e
def ownedF (e : Ent) (token : Int) : Int := if lmayF e = false then 1 else if e.token ≠ token then 9 else 0
def overF (e : Ent) (st : Int) : Ent := { e with state := st, lease := 0, method := [], path := [], body := [] }
def nextV (n : Int) : Int := if n < 0 then 0 else if 1073741824 ≤ n then 0 else n + 1
def nextE (n : Int) : Int := if n < 0 then 1 else if 1073741824 ≤ n then 10 else 0
def takeF (e : Ent) (now : Int) (c : Conf) : Ent × Int :=
  if lmayF e = false then (Ent.zero, 1) else if heldF e now = true then (Ent.zero, 8) else if nextE e.token ≠ 0 then (Ent.zero, nextE e.token) else ({ e with token := nextV e.token, lease := plusF now (confF c).lease }, 0)
theorem take_1 {e : Ent} {now : Int} {c : Conf} (h : lmayF e = false) : takeF e now c = (Ent.zero, 1) := if_pos h
theorem take_8 {e : Ent} {now : Int} {c : Conf} (h : lmayF e = true) (h1 : heldF e now = true) : takeF e now c = (Ent.zero, 8) := by unfold takeF; rw [if_neg (by simp [h]), if_pos h1]
theorem take_n {e : Ent} {now : Int} {c : Conf} (h : lmayF e = true) (h1 : heldF e now = false) (h2 : nextE e.token ≠ 0) : takeF e now c = (Ent.zero, nextE e.token) := by unfold takeF; rw [if_neg (by simp [h]), if_neg (by simp [h1]), if_pos h2]
theorem take_0 {e : Ent} {now : Int} {c : Conf} (h : lmayF e = true) (h1 : heldF e now = false) (h2 : nextE e.token = 0) : takeF e now c = ({ e with token := nextV e.token, lease := plusF now (confF c).lease }, 0) := by unfold takeF; rw [if_neg (by simp [h]), if_neg (by simp [h1]), if_neg (by simp [h2])]
def doneF (e : Ent) (status : Int) (text : List UInt8) (now : Int) (c : Conf) : Ent := { overF e 2 with status := status, text := text, expiry := plusF now (confF c).ttl }
def finishF (e : Ent) (token status : Int) (text : List UInt8) (now : Int) (c : Conf) : Ent × Int :=
  if ownedF e token ≠ 0 then (Ent.zero, ownedF e token) else if mayF (doneF e status text now c) = false then (Ent.zero, 1) else (doneF e status text now c, 0)
theorem finish_o {e : Ent} {token status now : Int} {text : List UInt8} {c : Conf} (h : ownedF e token ≠ 0) : finishF e token status text now c = (Ent.zero, ownedF e token) := if_pos h
theorem finish_1 {e : Ent} {token status now : Int} {text : List UInt8} {c : Conf} (h : ownedF e token = 0) (h1 : mayF (doneF e status text now c) = false) : finishF e token status text now c = (Ent.zero, 1) := by unfold finishF; rw [if_neg (by simp [h]), if_pos h1]
theorem finish_0 {e : Ent} {token status now : Int} {text : List UInt8} {c : Conf} (h : ownedF e token = 0) (h1 : mayF (doneF e status text now c) = true) : finishF e token status text now c = (doneF e status text now c, 0) := by unfold finishF; rw [if_neg (by simp [h]), if_neg (by simp [h1])]
def beginF (r : Req) (epoch now : Int) (c : Conf) (pr : List UInt8) : Ent × Int :=
  match reqF r with
  | none => (Ent.zero, 1)
  | some x => if epoch < 1 ∨ 1073741824 < epoch then (Ent.zero, 1) else (⟨x.tenant, x.key, 1, epoch, 1, 0, pr, plusF now (confF c).lease, plusF now (confF c).ttl, 0, [], x.method, x.path, x.body⟩, 0)
theorem begin_1 {r : Req} {epoch now : Int} {c : Conf} {pr : List UInt8} (h : reqF r = none ∨ epoch < 1 ∨ 1073741824 < epoch) : beginF r epoch now c pr = (Ent.zero, 1) := by
  unfold beginF
  split
  · rfl
  · rename_i x hx
    rw [if_pos]
    rcases h with h | h
    · rw [hx] at h; cases h
    · exact h
theorem begin_0 {r x : Req} {epoch now : Int} {c : Conf} {pr : List UInt8} (h : reqF r = some x) (h1 : 1 ≤ epoch) (h2 : epoch ≤ 1073741824) : beginF r epoch now c pr = (⟨x.tenant, x.key, 1, epoch, 1, 0, pr, plusF now (confF c).lease, plusF now (confF c).ttl, 0, [], x.method, x.path, x.body⟩, 0) := by
  unfold beginF
  rw [h]
  simp only
  rw [if_neg (by omega)]

/-! ### What is awake -/
def r0 : Req := ⟨0, 0, 0, [107], [103, 101, 116], [47, 97], []⟩
def c0 : Conf := ⟨0, 3, 9, 0, 0, 0⟩
def E1 (pr : List UInt8) : Ent := ⟨0, [107], 1, 7, 1, 0, pr, 13, 19, 0, [], [71, 69, 84], [47, 97], []⟩
def E2 (pr : List UInt8) : Ent := ⟨0, [107], 1, 7, 2, 0, pr, 16, 19, 0, [], [71, 69, 84], [47, 97], []⟩
def E3 (pr : List UInt8) : Ent := ⟨0, [107], 2, 7, 2, 0, pr, 0, 23, 200, [111, 107], [], [], []⟩
theorem m0 : methodF [103, 101, 116] = some [71, 69, 84] := by decide +kernel
theorem m1 : methodF [71, 69, 84] = some [71, 69, 84] := by decide +kernel
theorem p0 : pathF [47, 97] = some [47, 97] := by decide +kernel
theorem k0 : keyF [107] = true := by decide +kernel
theorem awk1 (pr : List UInt8) : beginF r0 7 10 c0 pr = (E1 pr, 0) := by
  have h : reqF r0 = some ⟨0, 0, 0, [107], [71, 69, 84], [47, 97], []⟩ := by
    unfold reqF
    simp only [r0, m0, p0, k0]
    rfl
  rw [begin_0 h (by decide) (by decide)]
  rfl
theorem may1 {pr : List UInt8} (h : pr.length = 32) : lmayF (E1 pr) = true := by
  simp [lmayF, mayF, headF, namedF, askedF, noAnswerF, E1, k0, m1, p0, h]
theorem may2 {pr : List UInt8} (h : pr.length = 32) : lmayF (E2 pr) = true := by
  simp [lmayF, mayF, headF, namedF, askedF, noAnswerF, E2, k0, m1, p0, h]
theorem may3 {pr : List UInt8} (h : pr.length = 32) : mayF (E3 pr) = true := by
  simp [mayF, headF, namedF, answeredF, noRequestF, E3, k0, h]
theorem awk2 {pr : List UInt8} (h : pr.length = 32) : takeF (E1 pr) 12 c0 = (Ent.zero, 8) := take_8 (may1 h) (by rfl)
theorem awk3 {pr : List UInt8} (h : pr.length = 32) : takeF (E1 pr) 13 c0 = (E2 pr, 0) := by
  rw [take_0 (may1 h) (by rfl) (by simp [nextE, E1])]
  rfl
theorem awk4 {pr : List UInt8} (h : pr.length = 32) : finishF (E2 pr) 2 200 [111, 107] 14 c0 = (E3 pr, 0) := by
  have h1 : doneF (E2 pr) 200 [111, 107] 14 c0 = E3 pr := rfl
  rw [finish_0 (by simp [ownedF, may2 h]; rfl) (by rw [h1]; exact may3 h), h1]
theorem sz1 (pr : List UInt8) : sizedE (E1 pr) := ⟨by simp [E1], by simp [E1], by simp [E1]⟩
theorem sz2 (pr : List UInt8) : sizedE (E2 pr) := ⟨by simp [E2], by simp [E2], by simp [E2]⟩
theorem tk1 (pr : List UInt8) : i64 (E1 pr).token := ⟨by simp [E1], by simp [E1]⟩
theorem awk5 (pr : List UInt8) : verdictF (E3 pr) pr 14 = 5 := by
  have h1 : expiredF (E3 pr) 14 = false := by rfl
  simp [verdictF, h1]
  simp [E3]
end Go.Law21
