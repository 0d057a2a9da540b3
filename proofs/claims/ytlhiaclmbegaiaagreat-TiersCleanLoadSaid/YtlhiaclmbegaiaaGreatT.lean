/- DERIVED. The types of the program as plain structures. Printed by gen.py of this repo. -/
import Derived.Test.YtlhiaclmbegaiaaGreatA23
import Derived.Test.YtlhiaclmbegaiaaGreatProg
set_option linter.unusedVariables false
set_option linter.unusedSimpArgs false
namespace Go.Abs
structure S_Blob where mk ::
  ID : Int
  Tier : Int
  Data : List Int
instance : Inhabited S_Blob := ⟨⟨default, default, default⟩⟩
def dS_Blob (s : S_Blob) : List DV := [.v (.int .i64 s.ID), .v (.int .i64 s.Tier), .ro 1 s.Data.length (gT (fInt .u8) s.Data)]
def fS_Blob (s : S_Blob) (j : Nat) : DV := (dS_Blob s).getD j (.v undef)
def bS_Blob (s : S_Blob) : List C := (dS_Blob s).map .d
structure S_draw_Codes where mk ::
  x_list : List Int
  x_at : Int
instance : Inhabited S_draw_Codes := ⟨⟨default, default⟩⟩
def dS_draw_Codes (s : S_draw_Codes) : List DV := [.ro 1 s.x_list.length (gT (fInt .u8) s.x_list), .v (.int .i64 s.x_at)]
def fS_draw_Codes (s : S_draw_Codes) (j : Nat) : DV := (dS_draw_Codes s).getD j (.v undef)
def bS_draw_Codes (s : S_draw_Codes) : List C := (dS_draw_Codes s).map .d
structure S_Field where mk ::
  Name : ByteArray
  Value : ByteArray
instance : Inhabited S_Field := ⟨⟨default, default⟩⟩
def dS_Field (s : S_Field) : List DV := [.v (.string s.Name), .v (.string s.Value)]
def fS_Field (s : S_Field) (j : Nat) : DV := (dS_Field s).getD j (.v undef)
def bS_Field (s : S_Field) : List C := (dS_Field s).map .d
structure S_Line where mk ::
  Offset : Int
  Length : Int
  Text : ByteArray
instance : Inhabited S_Line := ⟨⟨default, default, default⟩⟩
def dS_Line (s : S_Line) : List DV := [.v (.int .i64 s.Offset), .v (.int .i64 s.Length), .v (.string s.Text)]
def fS_Line (s : S_Line) (j : Nat) : DV := (dS_Line s).getD j (.v undef)
def bS_Line (s : S_Line) : List C := (dS_Line s).map .d
structure S_Event where mk ::
  Host : Int
  File : Int
  From : Int
  To : Int
  Lines : List S_Line
  Time : Int
  Weight : Int
  Trace : ByteArray
  Stream : ByteArray
  Fields : List S_Field
instance : Inhabited S_Event := ⟨⟨default, default, default, default, default, default, default, default, default, default⟩⟩
def dS_Event (s : S_Event) : List DV := [.v (.int .i64 s.Host), .v (.int .i64 s.File), .v (.int .i64 s.From), .v (.int .i64 s.To), .ro 3 s.Lines.length (gT fS_Line s.Lines), .v (.int .i64 s.Time), .v (.int .i64 s.Weight), .v (.string s.Trace), .v (.string s.Stream), .ro 2 s.Fields.length (gT fS_Field s.Fields)]
def fS_Event (s : S_Event) (j : Nat) : DV := (dS_Event s).getD j (.v undef)
def bS_Event (s : S_Event) : List C := (dS_Event s).map .d
structure S_Item where mk ::
  Rule : ByteArray
  Event : S_Event
instance : Inhabited S_Item := ⟨⟨default, default⟩⟩
def dS_Item (s : S_Item) : List DV := [.v (.string s.Rule)] ++ dS_Event s.Event
def fS_Item (s : S_Item) (j : Nat) : DV := (dS_Item s).getD j (.v undef)
def bS_Item (s : S_Item) : List C := (dS_Item s).map .d
structure S_Filter where mk ::
  Hashes : Int
  Bits : List Int
instance : Inhabited S_Filter := ⟨⟨default, default⟩⟩
def dS_Filter (s : S_Filter) : List DV := [.v (.int .i64 s.Hashes), .ro 1 s.Bits.length (gT (fInt .u64) s.Bits)]
def fS_Filter (s : S_Filter) (j : Nat) : DV := (dS_Filter s).getD j (.v undef)
def bS_Filter (s : S_Filter) : List C := (dS_Filter s).map .d
structure S_Tally where mk ::
  Host : Int
  Rule : ByteArray
  Lines : Int
instance : Inhabited S_Tally := ⟨⟨default, default, default⟩⟩
def dS_Tally (s : S_Tally) : List DV := [.v (.int .i64 s.Host), .v (.string s.Rule), .v (.int .i64 s.Lines)]
def fS_Tally (s : S_Tally) (j : Nat) : DV := (dS_Tally s).getD j (.v undef)
def bS_Tally (s : S_Tally) : List C := (dS_Tally s).map .d
structure S_SegmentInfo where mk ::
  ID : Int
  Level : Int
  Tier : Int
  Count : Int
  MinTime : Int
  MaxTime : Int
  Size : Int
instance : Inhabited S_SegmentInfo := ⟨⟨default, default, default, default, default, default, default⟩⟩
def dS_SegmentInfo (s : S_SegmentInfo) : List DV := [.v (.int .i64 s.ID), .v (.int .i64 s.Level), .v (.int .i64 s.Tier), .v (.int .i64 s.Count), .v (.int .i64 s.MinTime), .v (.int .i64 s.MaxTime), .v (.int .i64 s.Size)]
def fS_SegmentInfo (s : S_SegmentInfo) (j : Nat) : DV := (dS_SegmentInfo s).getD j (.v undef)
def bS_SegmentInfo (s : S_SegmentInfo) : List C := (dS_SegmentInfo s).map .d
structure S_Mark where mk ::
  Host : Int
  File : Int
  Offset : Int
instance : Inhabited S_Mark := ⟨⟨default, default, default⟩⟩
def dS_Mark (s : S_Mark) : List DV := [.v (.int .i64 s.Host), .v (.int .i64 s.File), .v (.int .i64 s.Offset)]
def fS_Mark (s : S_Mark) (j : Nat) : DV := (dS_Mark s).getD j (.v undef)
def bS_Mark (s : S_Mark) : List C := (dS_Mark s).map .d
structure S_Intake where mk ::
  Marks : List S_Mark
  Tallies : List S_Tally
instance : Inhabited S_Intake := ⟨⟨default, default⟩⟩
def dS_Intake (s : S_Intake) : List DV := [.ro 3 s.Marks.length (gT fS_Mark s.Marks), .ro 3 s.Tallies.length (gT fS_Tally s.Tallies)]
def fS_Intake (s : S_Intake) (j : Nat) : DV := (dS_Intake s).getD j (.v undef)
def bS_Intake (s : S_Intake) : List C := (dS_Intake s).map .d
structure S_Manifest where mk ::
  Number : Int
  NextID : Int
  Journal : Int
  Segments : List S_SegmentInfo
  Intake : S_Intake
  Expired : List S_Tally
instance : Inhabited S_Manifest := ⟨⟨default, default, default, default, default, default⟩⟩
def dS_Manifest (s : S_Manifest) : List DV := [.v (.int .i64 s.Number), .v (.int .i64 s.NextID), .v (.int .i64 s.Journal), .ro 7 s.Segments.length (gT fS_SegmentInfo s.Segments)] ++ dS_Intake s.Intake ++ [.ro 3 s.Expired.length (gT fS_Tally s.Expired)]
def fS_Manifest (s : S_Manifest) (j : Nat) : DV := (dS_Manifest s).getD j (.v undef)
def bS_Manifest (s : S_Manifest) : List C := (dS_Manifest s).map .d
structure S_segment_cursor where mk ::
  x_b : List Int
  x_bad : Bool
instance : Inhabited S_segment_cursor := ⟨⟨default, default⟩⟩
def dS_segment_cursor (s : S_segment_cursor) : List DV := [.ro 1 s.x_b.length (gT (fInt .u8) s.x_b), .v (.bool s.x_bad)]
def fS_segment_cursor (s : S_segment_cursor) (j : Nat) : DV := (dS_segment_cursor s).getD j (.v undef)
def bS_segment_cursor (s : S_segment_cursor) : List C := (dS_segment_cursor s).map .d
structure S_Summary where mk ::
  Count : Int
  MinTime : Int
  MaxTime : Int
instance : Inhabited S_Summary := ⟨⟨default, default, default⟩⟩
def dS_Summary (s : S_Summary) : List DV := [.v (.int .i64 s.Count), .v (.int .i64 s.MinTime), .v (.int .i64 s.MaxTime)]
def fS_Summary (s : S_Summary) (j : Nat) : DV := (dS_Summary s).getD j (.v undef)
def bS_Summary (s : S_Summary) : List C := (dS_Summary s).map .d
structure S_segment_entry where mk ::
  x_length : Int
  x_crc : Int
instance : Inhabited S_segment_entry := ⟨⟨default, default⟩⟩
def dS_segment_entry (s : S_segment_entry) : List DV := [.v (.int .i64 s.x_length), .v (.int .u32 s.x_crc)]
def fS_segment_entry (s : S_segment_entry) (j : Nat) : DV := (dS_segment_entry s).getD j (.v undef)
def bS_segment_entry (s : S_segment_entry) : List C := (dS_segment_entry s).map .d
end Go.Abs
